/-
  The walks of answers: codes, texts, what a text means. Printed by wip/gen/pol.py.
-/
import Derived.Test.YtimfbibaoppfcaaGreatDoorAnsPlain
import Derived.Test.YtimfbibaoppfcaaGreatDoorCfgWalk3
set_option maxRecDepth 100000
set_option linter.unusedSimpArgs false
set_option linter.unusedVariables false
namespace Go.Proofs.YtimfbibaoppfcaaGreatDoor
open Go AM
theorem ans_in (n lo hi : Int) :
    SpecIs Tryz.prog 38 [(vI n), (vI lo), (vI hi)] [] (vB (inB n lo hi)) [] := by
 refine Spec.intro Tryz.func38 rfl (by kernel_rfl) ?_
 intro Γ hGn hGk
 replace hGn : Γ.n = 15 := hGn
 replace hGk : Γ.names = [] := hGk
 refine AWp.weaken (mk [(0, (vI n)), (1, (vI lo)), (2, (vI hi))] []) (Weak.sub' hGk (by kernel_rfl)) ?_
 refine AWp.s_reg hGn hGk (aa 1) (Man.aa _ _) [(0, (vI n)), (1, (vI lo)), (2, (vI hi))] [] (by kernel_rfl) (by kernel_rfl) ?_
 by_cases hs1 : lo ≤ n
 ·skip
  refine AWp.s_reg hGn hGk [.a, .a, .m (some 9) ⟨[(7, (vI n)), (8, (vI lo))], [], (vB true), [], []⟩, .a, .a, .a, .a, .a, .a] ⟨StepOK.p rfl rfl rfl (OpOK.geq rfl rfl rfl (decide_eq_true hs1)), trivial⟩ [(6, (vB (decide (n ≤ hi))))] [] (by kernel_rfl) (by kernel_rfl) ?_
  refine AWp.ret ?_
  refine fin_of (.inr rfl) (v := (vB (decide (n ≤ hi)))) (Res.tmp rfl rfl) (h' := []) rfl rfl ?_
  exact ⟨by simp [inB, *], rfl⟩
 ·skip
  refine AWp.s_reg hGn hGk [.a, .a, .m (some 9) ⟨[(7, (vI n)), (8, (vI lo))], [], (vB false), [], []⟩, .a, .a, .a, .a, .a, .a] ⟨StepOK.p rfl rfl rfl (OpOK.geq rfl rfl rfl (decide_eq_false hs1)), trivial⟩ [(6, (vB false))] [] (by kernel_rfl) (by kernel_rfl) ?_
  refine AWp.ret ?_
  refine fin_of (.inr rfl) (v := (vB false)) (Res.tmp rfl rfl) (h' := []) rfl rfl ?_
  exact ⟨by simp [inB, *], rfl⟩

theorem ans_Valid (a : D.Answer) :
    SpecIs Tryz.prog 21 [(.agg [(vI a.ID), (vI a.Page), (vI a.Person), (vI a.Kind), (vI a.Arg), (vI a.At)])] [] (vB (ansValid a)) [] := by
 refine Spec.intro Tryz.func21 rfl (by kernel_rfl) ?_
 intro Γ hGn hGk
 replace hGn : Γ.n = 41 := hGn
 replace hGk : Γ.names = [] := hGk
 refine AWp.weaken (mk [(0, (.agg [(vI a.ID), (vI a.Page), (vI a.Person), (vI a.Kind), (vI a.Arg), (vI a.At)]))] []) (Weak.sub' hGk (by kernel_rfl)) ?_
 let a'1 : AO := (.box [(vI a.ID), (vI a.Page), (vI a.Person), (vI a.Kind), (vI a.Arg), (vI a.At)])
 refine AWp.s_reg hGn hGk (aa 2) (Man.aa _ _) [(1, (.ref 1001 0))] [(1001, a'1)] (by kernel_rfl) (by kernel_rfl) ?_
 refine AWp.s_reg hGn hGk (aa 2) (Man.aa _ _) [(1, (.ref 1001 0)), (3, (vI 0)), (4, (vI 0))] [(1001, a'1)] (by kernel_rfl) (by kernel_rfl) ?_
 refine AWp.seq ?_
 refine AWp.s_reg hGn hGk (aa 2) (Man.aa _ _) [(1, (.ref 1001 0)), (3, (vI 0)), (4, (vI 0)), (6, (vI a.Kind))] [(1001, a'1)] (by kernel_rfl) (by kernel_rfl) ?_
 refine AWp.block ?_
 refine AWp.s_reg hGn hGk (aa 2) (Man.aa _ _) [(1, (.ref 1001 0)), (3, (vI 0)), (4, (vI 0)), (6, (vI a.Kind)), (7, (vB (decide (a.Kind = (3 : Int)))))] [(1001, a'1)] (by kernel_rfl) (by kernel_rfl) ?_
 refine AWp.cond (decide (a.Kind = (3 : Int))) rfl (fun hc1 => ?_) (fun hc1 => ?_)
 ·skip
  replace hc1 := of_decide_eq_true hc1
  refine AWp.reg' hGn hGk (aa 2) (Man.aa _ _) [(1, (.ref 1001 0)), (3, (vI 1)), (4, (vI 86400))] [(1001, a'1)] (by kernel_rfl) (by kernel_rfl) ?_
  refine blockQ_normal ?_
  refine nextQ_normal ?_
  cases hs2 : inB a.ID (1 : Int) (999999 : Int)
  ·skip
   have ha3 := inB_false hs2
   refine AWp.s_reg hGn hGk (.a :: .a :: .m (some 13) ⟨[(12, (vI a.ID))], [], (vB false), [], []⟩ :: .a :: .a :: .a :: .a :: .a :: .a :: .a :: .a :: .a :: .a :: .a :: .a :: .a :: .a :: .a :: .a :: .a :: .a :: .a :: .a :: .a :: .a :: .a :: .a :: .a :: .a :: .a :: .a :: []) ⟨StepOK.p rfl rfl rfl (OpOK.call rfl (by kernel_rfl) rfl (by have hq := (ans_in a.ID (1 : Int) (999999 : Int)); rw [hs2] at hq; exact hq) (by kernel_rfl)), trivial⟩ [(2, (vB false))] [] (by kernel_rfl) (by kernel_rfl) ?_
   refine AWp.ret ?_
   refine fin_of (.inr rfl) (v := (vB false)) (Res.tmp rfl rfl) (h' := []) rfl rfl ?_
   exact ⟨by first | (simp [ansValid, ansLow, ansHigh, *]; done) | (simp [ansValid, ansLow, ansHigh, *]; simp [inB]; done) | (simp [ansValid, ansLow, ansHigh, *]; simp [inB]; omega), rfl⟩
  ·skip
   have ha4 := inB_spec hs2
   cases hs5 : inB a.Page (1 : Int) (999999 : Int)
   ·skip
    have ha6 := inB_false hs5
    refine AWp.s_reg hGn hGk (.a :: .a :: .m (some 13) ⟨[(12, (vI a.ID))], [], (vB true), [], []⟩ :: .a :: .a :: .a :: .m (some 17) ⟨[(16, (vI a.Page)), (14, (vB true))], [], (vB false), [], []⟩ :: .a :: .a :: .a :: .a :: .a :: .a :: .a :: .a :: .a :: .a :: .a :: .a :: .a :: .a :: .a :: .a :: .a :: .a :: .a :: .a :: .a :: .a :: .a :: .a :: []) ⟨StepOK.p rfl rfl rfl (OpOK.call rfl (by kernel_rfl) rfl (by have hq := (ans_in a.ID (1 : Int) (999999 : Int)); rw [hs2] at hq; exact hq) (by kernel_rfl)),
     StepOK.g rfl rfl rfl rfl rfl (by simp) (OpOK.call rfl (by kernel_rfl) rfl (by have hq := (ans_in a.Page (1 : Int) (999999 : Int)); rw [hs5] at hq; exact hq) (by kernel_rfl)), trivial⟩ [(2, (vB false))] [] (by kernel_rfl) (by kernel_rfl) ?_
    refine AWp.ret ?_
    refine fin_of (.inr rfl) (v := (vB false)) (Res.tmp rfl rfl) (h' := []) rfl rfl ?_
    exact ⟨by first | (simp [ansValid, ansLow, ansHigh, *]; done) | (simp [ansValid, ansLow, ansHigh, *]; simp [inB]; done) | (simp [ansValid, ansLow, ansHigh, *]; simp [inB]; omega), rfl⟩
   ·skip
    have ha7 := inB_spec hs5
    cases hs8 : inB a.Person ((-1) : Int) (31 : Int)
    ·skip
     have ha9 := inB_false hs8
     refine AWp.s_reg hGn hGk (.a :: .a :: .m (some 13) ⟨[(12, (vI a.ID))], [], (vB true), [], []⟩ :: .a :: .a :: .a :: .m (some 17) ⟨[(16, (vI a.Page)), (14, (vB true))], [], (vB true), [], []⟩ :: .a :: .a :: .a :: .a :: .m (some 22) ⟨[(21, (vI a.Person)), (19, (vB true))], [], (vB false), [], []⟩ :: .a :: .a :: .a :: .a :: .a :: .a :: .a :: .a :: .a :: .a :: .a :: .a :: .a :: .a :: .a :: .a :: .a :: .a :: .a :: []) ⟨StepOK.p rfl rfl rfl (OpOK.call rfl (by kernel_rfl) rfl (by have hq := (ans_in a.ID (1 : Int) (999999 : Int)); rw [hs2] at hq; exact hq) (by kernel_rfl)),
      StepOK.g rfl rfl rfl rfl rfl (by simp) (OpOK.call rfl (by kernel_rfl) rfl (by have hq := (ans_in a.Page (1 : Int) (999999 : Int)); rw [hs5] at hq; exact hq) (by kernel_rfl)),
      StepOK.g rfl rfl rfl rfl rfl (by simp) (OpOK.call rfl (by kernel_rfl) rfl (by have hq := (ans_in a.Person ((-1) : Int) (31 : Int)); rw [hs8] at hq; exact hq) (by kernel_rfl)), trivial⟩ [(2, (vB false))] [] (by kernel_rfl) (by kernel_rfl) ?_
     refine AWp.ret ?_
     refine fin_of (.inr rfl) (v := (vB false)) (Res.tmp rfl rfl) (h' := []) rfl rfl ?_
     exact ⟨by first | (simp [ansValid, ansLow, ansHigh, *]; done) | (simp [ansValid, ansLow, ansHigh, *]; simp [inB]; done) | (simp [ansValid, ansLow, ansHigh, *]; simp [inB]; omega), rfl⟩
    ·skip
     have ha10 := inB_spec hs8
     cases hs11 : inB a.At (0 : Int) (8589934592 : Int)
     ·skip
      have ha12 := inB_false hs11
      refine AWp.s_reg hGn hGk (.a :: .a :: .m (some 13) ⟨[(12, (vI a.ID))], [], (vB true), [], []⟩ :: .a :: .a :: .a :: .m (some 17) ⟨[(16, (vI a.Page)), (14, (vB true))], [], (vB true), [], []⟩ :: .a :: .a :: .a :: .a :: .m (some 22) ⟨[(21, (vI a.Person)), (19, (vB true))], [], (vB true), [], []⟩ :: .a :: .a :: .a :: .a :: .m (some 27) ⟨[(26, (vI a.At)), (24, (vB true))], [], (vB false), [], []⟩ :: .a :: .a :: .a :: .a :: .a :: .a :: .a :: .a :: .a :: .a :: .a :: .a :: .a :: .a :: []) ⟨StepOK.p rfl rfl rfl (OpOK.call rfl (by kernel_rfl) rfl (by have hq := (ans_in a.ID (1 : Int) (999999 : Int)); rw [hs2] at hq; exact hq) (by kernel_rfl)),
       StepOK.g rfl rfl rfl rfl rfl (by simp) (OpOK.call rfl (by kernel_rfl) rfl (by have hq := (ans_in a.Page (1 : Int) (999999 : Int)); rw [hs5] at hq; exact hq) (by kernel_rfl)),
       StepOK.g rfl rfl rfl rfl rfl (by simp) (OpOK.call rfl (by kernel_rfl) rfl (by have hq := (ans_in a.Person ((-1) : Int) (31 : Int)); rw [hs8] at hq; exact hq) (by kernel_rfl)),
       StepOK.g rfl rfl rfl rfl rfl (by simp) (OpOK.call rfl (by kernel_rfl) rfl (by have hq := (ans_in a.At (0 : Int) (8589934592 : Int)); rw [hs11] at hq; exact hq) (by kernel_rfl)), trivial⟩ [(2, (vB false))] [] (by kernel_rfl) (by kernel_rfl) ?_
      refine AWp.ret ?_
      refine fin_of (.inr rfl) (v := (vB false)) (Res.tmp rfl rfl) (h' := []) rfl rfl ?_
      exact ⟨by first | (simp [ansValid, ansLow, ansHigh, *]; done) | (simp [ansValid, ansLow, ansHigh, *]; simp [inB]; done) | (simp [ansValid, ansLow, ansHigh, *]; simp [inB]; omega), rfl⟩
     ·skip
      have ha13 := inB_spec hs11
      cases hs14 : inB a.Kind (1 : Int) (5 : Int)
      ·skip
       have ha15 := inB_false hs14
       refine AWp.s_reg hGn hGk (.a :: .a :: .m (some 13) ⟨[(12, (vI a.ID))], [], (vB true), [], []⟩ :: .a :: .a :: .a :: .m (some 17) ⟨[(16, (vI a.Page)), (14, (vB true))], [], (vB true), [], []⟩ :: .a :: .a :: .a :: .a :: .m (some 22) ⟨[(21, (vI a.Person)), (19, (vB true))], [], (vB true), [], []⟩ :: .a :: .a :: .a :: .a :: .m (some 27) ⟨[(26, (vI a.At)), (24, (vB true))], [], (vB true), [], []⟩ :: .a :: .a :: .a :: .a :: .m (some 32) ⟨[(31, (vI a.Kind)), (29, (vB true))], [], (vB false), [], []⟩ :: .a :: .a :: .a :: .a :: .a :: .a :: .a :: .a :: .a :: []) ⟨StepOK.p rfl rfl rfl (OpOK.call rfl (by kernel_rfl) rfl (by have hq := (ans_in a.ID (1 : Int) (999999 : Int)); rw [hs2] at hq; exact hq) (by kernel_rfl)),
        StepOK.g rfl rfl rfl rfl rfl (by simp) (OpOK.call rfl (by kernel_rfl) rfl (by have hq := (ans_in a.Page (1 : Int) (999999 : Int)); rw [hs5] at hq; exact hq) (by kernel_rfl)),
        StepOK.g rfl rfl rfl rfl rfl (by simp) (OpOK.call rfl (by kernel_rfl) rfl (by have hq := (ans_in a.Person ((-1) : Int) (31 : Int)); rw [hs8] at hq; exact hq) (by kernel_rfl)),
        StepOK.g rfl rfl rfl rfl rfl (by simp) (OpOK.call rfl (by kernel_rfl) rfl (by have hq := (ans_in a.At (0 : Int) (8589934592 : Int)); rw [hs11] at hq; exact hq) (by kernel_rfl)),
        StepOK.g rfl rfl rfl rfl rfl (by simp) (OpOK.call rfl (by kernel_rfl) rfl (by have hq := (ans_in a.Kind (1 : Int) (5 : Int)); rw [hs14] at hq; exact hq) (by kernel_rfl)), trivial⟩ [(2, (vB false))] [] (by kernel_rfl) (by kernel_rfl) ?_
       refine AWp.ret ?_
       refine fin_of (.inr rfl) (v := (vB false)) (Res.tmp rfl rfl) (h' := []) rfl rfl ?_
       exact ⟨by first | (simp [ansValid, ansLow, ansHigh, *]; done) | (simp [ansValid, ansLow, ansHigh, *]; simp [inB]; done) | (simp [ansValid, ansLow, ansHigh, *]; simp [inB]; omega), rfl⟩
      ·skip
       have ha16 := inB_spec hs14
       refine AWp.s_reg hGn hGk (.a :: .a :: .m (some 13) ⟨[(12, (vI a.ID))], [], (vB true), [], []⟩ :: .a :: .a :: .a :: .m (some 17) ⟨[(16, (vI a.Page)), (14, (vB true))], [], (vB true), [], []⟩ :: .a :: .a :: .a :: .a :: .m (some 22) ⟨[(21, (vI a.Person)), (19, (vB true))], [], (vB true), [], []⟩ :: .a :: .a :: .a :: .a :: .m (some 27) ⟨[(26, (vI a.At)), (24, (vB true))], [], (vB true), [], []⟩ :: .a :: .a :: .a :: .a :: .m (some 32) ⟨[(31, (vI a.Kind)), (29, (vB true))], [], (vB true), [], []⟩ :: .a :: .a :: .a :: .a :: .a :: .a :: .m (some 39) ⟨[(36, (vI a.Arg)), (37, (vI 1)), (38, (vI 86400)), (34, (vB true))], [], (vB (inB a.Arg (1 : Int) (86400 : Int))), [], []⟩ :: .a :: .a :: []) ⟨StepOK.p rfl rfl rfl (OpOK.call rfl (by kernel_rfl) rfl (by have hq := (ans_in a.ID (1 : Int) (999999 : Int)); rw [hs2] at hq; exact hq) (by kernel_rfl)),
        StepOK.g rfl rfl rfl rfl rfl (by simp) (OpOK.call rfl (by kernel_rfl) rfl (by have hq := (ans_in a.Page (1 : Int) (999999 : Int)); rw [hs5] at hq; exact hq) (by kernel_rfl)),
        StepOK.g rfl rfl rfl rfl rfl (by simp) (OpOK.call rfl (by kernel_rfl) rfl (by have hq := (ans_in a.Person ((-1) : Int) (31 : Int)); rw [hs8] at hq; exact hq) (by kernel_rfl)),
        StepOK.g rfl rfl rfl rfl rfl (by simp) (OpOK.call rfl (by kernel_rfl) rfl (by have hq := (ans_in a.At (0 : Int) (8589934592 : Int)); rw [hs11] at hq; exact hq) (by kernel_rfl)),
        StepOK.g rfl rfl rfl rfl rfl (by simp) (OpOK.call rfl (by kernel_rfl) rfl (by have hq := (ans_in a.Kind (1 : Int) (5 : Int)); rw [hs14] at hq; exact hq) (by kernel_rfl)),
        StepOK.g rfl rfl rfl rfl rfl (by simp) (OpOK.call rfl (by kernel_rfl) rfl (ans_in a.Arg (1 : Int) (86400 : Int)) (by kernel_rfl)), trivial⟩ [(2, (vB (inB a.Arg (1 : Int) (86400 : Int))))] [] (by kernel_rfl) (by kernel_rfl) ?_
       refine AWp.ret ?_
       refine fin_of (.inr rfl) (v := (vB (inB a.Arg (1 : Int) (86400 : Int)))) (Res.tmp rfl rfl) (h' := []) rfl rfl ?_
       exact ⟨by first | (simp [ansValid, ansLow, ansHigh, *]; done) | (simp [ansValid, ansLow, ansHigh, *]; simp [inB]; done) | (simp [ansValid, ansLow, ansHigh, *]; simp [inB]; omega), rfl⟩
 ·skip
  replace hc1 := of_decide_eq_false hc1
  refine AWp.s_reg hGn hGk (aa 2) (Man.aa _ _) [(1, (.ref 1001 0)), (3, (vI 0)), (4, (vI 0)), (9, (vB (decide (a.Kind = (4 : Int)))))] [(1001, a'1)] (by kernel_rfl) (by kernel_rfl) ?_
  refine AWp.cond (decide (a.Kind = (4 : Int))) rfl (fun hc17 => ?_) (fun hc17 => ?_)
  ·skip
   replace hc17 := of_decide_eq_true hc17
   refine AWp.reg' hGn hGk (aa 1) (Man.aa _ _) [(1, (.ref 1001 0)), (3, (vI 0)), (4, (vI 31))] [(1001, a'1)] (by kernel_rfl) (by kernel_rfl) ?_
   refine blockQ_normal ?_
   refine nextQ_normal ?_
   cases hs18 : inB a.ID (1 : Int) (999999 : Int)
   ·skip
    have ha19 := inB_false hs18
    refine AWp.s_reg hGn hGk (.a :: .a :: .m (some 13) ⟨[(12, (vI a.ID))], [], (vB false), [], []⟩ :: .a :: .a :: .a :: .a :: .a :: .a :: .a :: .a :: .a :: .a :: .a :: .a :: .a :: .a :: .a :: .a :: .a :: .a :: .a :: .a :: .a :: .a :: .a :: .a :: .a :: .a :: .a :: .a :: []) ⟨StepOK.p rfl rfl rfl (OpOK.call rfl (by kernel_rfl) rfl (by have hq := (ans_in a.ID (1 : Int) (999999 : Int)); rw [hs18] at hq; exact hq) (by kernel_rfl)), trivial⟩ [(2, (vB false))] [] (by kernel_rfl) (by kernel_rfl) ?_
    refine AWp.ret ?_
    refine fin_of (.inr rfl) (v := (vB false)) (Res.tmp rfl rfl) (h' := []) rfl rfl ?_
    exact ⟨by first | (simp [ansValid, ansLow, ansHigh, *]; done) | (simp [ansValid, ansLow, ansHigh, *]; simp [inB]; done) | (simp [ansValid, ansLow, ansHigh, *]; simp [inB]; omega), rfl⟩
   ·skip
    have ha20 := inB_spec hs18
    cases hs21 : inB a.Page (1 : Int) (999999 : Int)
    ·skip
     have ha22 := inB_false hs21
     refine AWp.s_reg hGn hGk (.a :: .a :: .m (some 13) ⟨[(12, (vI a.ID))], [], (vB true), [], []⟩ :: .a :: .a :: .a :: .m (some 17) ⟨[(16, (vI a.Page)), (14, (vB true))], [], (vB false), [], []⟩ :: .a :: .a :: .a :: .a :: .a :: .a :: .a :: .a :: .a :: .a :: .a :: .a :: .a :: .a :: .a :: .a :: .a :: .a :: .a :: .a :: .a :: .a :: .a :: .a :: []) ⟨StepOK.p rfl rfl rfl (OpOK.call rfl (by kernel_rfl) rfl (by have hq := (ans_in a.ID (1 : Int) (999999 : Int)); rw [hs18] at hq; exact hq) (by kernel_rfl)),
      StepOK.g rfl rfl rfl rfl rfl (by simp) (OpOK.call rfl (by kernel_rfl) rfl (by have hq := (ans_in a.Page (1 : Int) (999999 : Int)); rw [hs21] at hq; exact hq) (by kernel_rfl)), trivial⟩ [(2, (vB false))] [] (by kernel_rfl) (by kernel_rfl) ?_
     refine AWp.ret ?_
     refine fin_of (.inr rfl) (v := (vB false)) (Res.tmp rfl rfl) (h' := []) rfl rfl ?_
     exact ⟨by first | (simp [ansValid, ansLow, ansHigh, *]; done) | (simp [ansValid, ansLow, ansHigh, *]; simp [inB]; done) | (simp [ansValid, ansLow, ansHigh, *]; simp [inB]; omega), rfl⟩
    ·skip
     have ha23 := inB_spec hs21
     cases hs24 : inB a.Person ((-1) : Int) (31 : Int)
     ·skip
      have ha25 := inB_false hs24
      refine AWp.s_reg hGn hGk (.a :: .a :: .m (some 13) ⟨[(12, (vI a.ID))], [], (vB true), [], []⟩ :: .a :: .a :: .a :: .m (some 17) ⟨[(16, (vI a.Page)), (14, (vB true))], [], (vB true), [], []⟩ :: .a :: .a :: .a :: .a :: .m (some 22) ⟨[(21, (vI a.Person)), (19, (vB true))], [], (vB false), [], []⟩ :: .a :: .a :: .a :: .a :: .a :: .a :: .a :: .a :: .a :: .a :: .a :: .a :: .a :: .a :: .a :: .a :: .a :: .a :: .a :: []) ⟨StepOK.p rfl rfl rfl (OpOK.call rfl (by kernel_rfl) rfl (by have hq := (ans_in a.ID (1 : Int) (999999 : Int)); rw [hs18] at hq; exact hq) (by kernel_rfl)),
       StepOK.g rfl rfl rfl rfl rfl (by simp) (OpOK.call rfl (by kernel_rfl) rfl (by have hq := (ans_in a.Page (1 : Int) (999999 : Int)); rw [hs21] at hq; exact hq) (by kernel_rfl)),
       StepOK.g rfl rfl rfl rfl rfl (by simp) (OpOK.call rfl (by kernel_rfl) rfl (by have hq := (ans_in a.Person ((-1) : Int) (31 : Int)); rw [hs24] at hq; exact hq) (by kernel_rfl)), trivial⟩ [(2, (vB false))] [] (by kernel_rfl) (by kernel_rfl) ?_
      refine AWp.ret ?_
      refine fin_of (.inr rfl) (v := (vB false)) (Res.tmp rfl rfl) (h' := []) rfl rfl ?_
      exact ⟨by first | (simp [ansValid, ansLow, ansHigh, *]; done) | (simp [ansValid, ansLow, ansHigh, *]; simp [inB]; done) | (simp [ansValid, ansLow, ansHigh, *]; simp [inB]; omega), rfl⟩
     ·skip
      have ha26 := inB_spec hs24
      cases hs27 : inB a.At (0 : Int) (8589934592 : Int)
      ·skip
       have ha28 := inB_false hs27
       refine AWp.s_reg hGn hGk (.a :: .a :: .m (some 13) ⟨[(12, (vI a.ID))], [], (vB true), [], []⟩ :: .a :: .a :: .a :: .m (some 17) ⟨[(16, (vI a.Page)), (14, (vB true))], [], (vB true), [], []⟩ :: .a :: .a :: .a :: .a :: .m (some 22) ⟨[(21, (vI a.Person)), (19, (vB true))], [], (vB true), [], []⟩ :: .a :: .a :: .a :: .a :: .m (some 27) ⟨[(26, (vI a.At)), (24, (vB true))], [], (vB false), [], []⟩ :: .a :: .a :: .a :: .a :: .a :: .a :: .a :: .a :: .a :: .a :: .a :: .a :: .a :: .a :: []) ⟨StepOK.p rfl rfl rfl (OpOK.call rfl (by kernel_rfl) rfl (by have hq := (ans_in a.ID (1 : Int) (999999 : Int)); rw [hs18] at hq; exact hq) (by kernel_rfl)),
        StepOK.g rfl rfl rfl rfl rfl (by simp) (OpOK.call rfl (by kernel_rfl) rfl (by have hq := (ans_in a.Page (1 : Int) (999999 : Int)); rw [hs21] at hq; exact hq) (by kernel_rfl)),
        StepOK.g rfl rfl rfl rfl rfl (by simp) (OpOK.call rfl (by kernel_rfl) rfl (by have hq := (ans_in a.Person ((-1) : Int) (31 : Int)); rw [hs24] at hq; exact hq) (by kernel_rfl)),
        StepOK.g rfl rfl rfl rfl rfl (by simp) (OpOK.call rfl (by kernel_rfl) rfl (by have hq := (ans_in a.At (0 : Int) (8589934592 : Int)); rw [hs27] at hq; exact hq) (by kernel_rfl)), trivial⟩ [(2, (vB false))] [] (by kernel_rfl) (by kernel_rfl) ?_
       refine AWp.ret ?_
       refine fin_of (.inr rfl) (v := (vB false)) (Res.tmp rfl rfl) (h' := []) rfl rfl ?_
       exact ⟨by first | (simp [ansValid, ansLow, ansHigh, *]; done) | (simp [ansValid, ansLow, ansHigh, *]; simp [inB]; done) | (simp [ansValid, ansLow, ansHigh, *]; simp [inB]; omega), rfl⟩
      ·skip
       have ha29 := inB_spec hs27
       cases hs30 : inB a.Kind (1 : Int) (5 : Int)
       ·skip
        have ha31 := inB_false hs30
        refine AWp.s_reg hGn hGk (.a :: .a :: .m (some 13) ⟨[(12, (vI a.ID))], [], (vB true), [], []⟩ :: .a :: .a :: .a :: .m (some 17) ⟨[(16, (vI a.Page)), (14, (vB true))], [], (vB true), [], []⟩ :: .a :: .a :: .a :: .a :: .m (some 22) ⟨[(21, (vI a.Person)), (19, (vB true))], [], (vB true), [], []⟩ :: .a :: .a :: .a :: .a :: .m (some 27) ⟨[(26, (vI a.At)), (24, (vB true))], [], (vB true), [], []⟩ :: .a :: .a :: .a :: .a :: .m (some 32) ⟨[(31, (vI a.Kind)), (29, (vB true))], [], (vB false), [], []⟩ :: .a :: .a :: .a :: .a :: .a :: .a :: .a :: .a :: .a :: []) ⟨StepOK.p rfl rfl rfl (OpOK.call rfl (by kernel_rfl) rfl (by have hq := (ans_in a.ID (1 : Int) (999999 : Int)); rw [hs18] at hq; exact hq) (by kernel_rfl)),
         StepOK.g rfl rfl rfl rfl rfl (by simp) (OpOK.call rfl (by kernel_rfl) rfl (by have hq := (ans_in a.Page (1 : Int) (999999 : Int)); rw [hs21] at hq; exact hq) (by kernel_rfl)),
         StepOK.g rfl rfl rfl rfl rfl (by simp) (OpOK.call rfl (by kernel_rfl) rfl (by have hq := (ans_in a.Person ((-1) : Int) (31 : Int)); rw [hs24] at hq; exact hq) (by kernel_rfl)),
         StepOK.g rfl rfl rfl rfl rfl (by simp) (OpOK.call rfl (by kernel_rfl) rfl (by have hq := (ans_in a.At (0 : Int) (8589934592 : Int)); rw [hs27] at hq; exact hq) (by kernel_rfl)),
         StepOK.g rfl rfl rfl rfl rfl (by simp) (OpOK.call rfl (by kernel_rfl) rfl (by have hq := (ans_in a.Kind (1 : Int) (5 : Int)); rw [hs30] at hq; exact hq) (by kernel_rfl)), trivial⟩ [(2, (vB false))] [] (by kernel_rfl) (by kernel_rfl) ?_
        refine AWp.ret ?_
        refine fin_of (.inr rfl) (v := (vB false)) (Res.tmp rfl rfl) (h' := []) rfl rfl ?_
        exact ⟨by first | (simp [ansValid, ansLow, ansHigh, *]; done) | (simp [ansValid, ansLow, ansHigh, *]; simp [inB]; done) | (simp [ansValid, ansLow, ansHigh, *]; simp [inB]; omega), rfl⟩
       ·skip
        have ha32 := inB_spec hs30
        refine AWp.s_reg hGn hGk (.a :: .a :: .m (some 13) ⟨[(12, (vI a.ID))], [], (vB true), [], []⟩ :: .a :: .a :: .a :: .m (some 17) ⟨[(16, (vI a.Page)), (14, (vB true))], [], (vB true), [], []⟩ :: .a :: .a :: .a :: .a :: .m (some 22) ⟨[(21, (vI a.Person)), (19, (vB true))], [], (vB true), [], []⟩ :: .a :: .a :: .a :: .a :: .m (some 27) ⟨[(26, (vI a.At)), (24, (vB true))], [], (vB true), [], []⟩ :: .a :: .a :: .a :: .a :: .m (some 32) ⟨[(31, (vI a.Kind)), (29, (vB true))], [], (vB true), [], []⟩ :: .a :: .a :: .a :: .a :: .a :: .a :: .m (some 39) ⟨[(36, (vI a.Arg)), (37, (vI 0)), (38, (vI 31)), (34, (vB true))], [], (vB (inB a.Arg (0 : Int) (31 : Int))), [], []⟩ :: .a :: .a :: []) ⟨StepOK.p rfl rfl rfl (OpOK.call rfl (by kernel_rfl) rfl (by have hq := (ans_in a.ID (1 : Int) (999999 : Int)); rw [hs18] at hq; exact hq) (by kernel_rfl)),
         StepOK.g rfl rfl rfl rfl rfl (by simp) (OpOK.call rfl (by kernel_rfl) rfl (by have hq := (ans_in a.Page (1 : Int) (999999 : Int)); rw [hs21] at hq; exact hq) (by kernel_rfl)),
         StepOK.g rfl rfl rfl rfl rfl (by simp) (OpOK.call rfl (by kernel_rfl) rfl (by have hq := (ans_in a.Person ((-1) : Int) (31 : Int)); rw [hs24] at hq; exact hq) (by kernel_rfl)),
         StepOK.g rfl rfl rfl rfl rfl (by simp) (OpOK.call rfl (by kernel_rfl) rfl (by have hq := (ans_in a.At (0 : Int) (8589934592 : Int)); rw [hs27] at hq; exact hq) (by kernel_rfl)),
         StepOK.g rfl rfl rfl rfl rfl (by simp) (OpOK.call rfl (by kernel_rfl) rfl (by have hq := (ans_in a.Kind (1 : Int) (5 : Int)); rw [hs30] at hq; exact hq) (by kernel_rfl)),
         StepOK.g rfl rfl rfl rfl rfl (by simp) (OpOK.call rfl (by kernel_rfl) rfl (ans_in a.Arg (0 : Int) (31 : Int)) (by kernel_rfl)), trivial⟩ [(2, (vB (inB a.Arg (0 : Int) (31 : Int))))] [] (by kernel_rfl) (by kernel_rfl) ?_
        refine AWp.ret ?_
        refine fin_of (.inr rfl) (v := (vB (inB a.Arg (0 : Int) (31 : Int)))) (Res.tmp rfl rfl) (h' := []) rfl rfl ?_
        exact ⟨by first | (simp [ansValid, ansLow, ansHigh, *]; done) | (simp [ansValid, ansLow, ansHigh, *]; simp [inB]; done) | (simp [ansValid, ansLow, ansHigh, *]; simp [inB]; omega), rfl⟩
  ·skip
   replace hc17 := of_decide_eq_false hc17
   refine AWp.skip ?_
   refine blockQ_normal ?_
   refine nextQ_normal ?_
   cases hs33 : inB a.ID (1 : Int) (999999 : Int)
   ·skip
    have ha34 := inB_false hs33
    first | refine AWp.cast (show (mk [(1, (.ref 1001 0)), (3, (vI 0)), (4, (vI 0)), (9, (vB (decide (a.Kind = (4 : Int)))))] [(1001, (.box [(vI a.ID), (vI a.Page), (vI a.Person), (vI a.Kind), (vI a.Arg), (vI a.At)]))]) = (mk [(1, (.ref 1001 0)), (3, (vI 0)), (4, (vI 0)), (9, (vB false))] [(1001, (.box [(vI a.ID), (vI a.Page), (vI a.Person), (vI a.Kind), (vI a.Arg), (vI a.At)]))]) from by rw [(decide_eq_false hc17)]) ?_ | skip
    refine AWp.s_reg hGn hGk (.a :: .a :: .m (some 13) ⟨[(12, (vI a.ID))], [], (vB false), [], []⟩ :: .a :: .a :: .a :: .a :: .a :: .a :: .a :: .a :: .a :: .a :: .a :: .a :: .a :: .a :: .a :: .a :: .a :: .a :: .a :: .a :: .a :: .a :: .a :: .a :: .a :: .a :: .a :: .a :: []) ⟨StepOK.p rfl rfl rfl (OpOK.call rfl (by kernel_rfl) rfl (by have hq := (ans_in a.ID (1 : Int) (999999 : Int)); rw [hs33] at hq; exact hq) (by kernel_rfl)), trivial⟩ [(2, (vB false))] [] (by kernel_rfl) (by kernel_rfl) ?_
    refine AWp.ret ?_
    refine fin_of (.inr rfl) (v := (vB false)) (Res.tmp rfl rfl) (h' := []) rfl rfl ?_
    exact ⟨by first | (simp [ansValid, ansLow, ansHigh, *]; done) | (simp [ansValid, ansLow, ansHigh, *]; simp [inB]; done) | (simp [ansValid, ansLow, ansHigh, *]; simp [inB]; omega), rfl⟩
   ·skip
    have ha35 := inB_spec hs33
    first | refine AWp.cast (show (mk [(1, (.ref 1001 0)), (3, (vI 0)), (4, (vI 0)), (9, (vB (decide (a.Kind = (4 : Int)))))] [(1001, (.box [(vI a.ID), (vI a.Page), (vI a.Person), (vI a.Kind), (vI a.Arg), (vI a.At)]))]) = (mk [(1, (.ref 1001 0)), (3, (vI 0)), (4, (vI 0)), (9, (vB false))] [(1001, (.box [(vI a.ID), (vI a.Page), (vI a.Person), (vI a.Kind), (vI a.Arg), (vI a.At)]))]) from by rw [(decide_eq_false hc17)]) ?_ | skip
    cases hs36 : inB a.Page (1 : Int) (999999 : Int)
    ·skip
     have ha37 := inB_false hs36
     refine AWp.s_reg hGn hGk (.a :: .a :: .m (some 13) ⟨[(12, (vI a.ID))], [], (vB true), [], []⟩ :: .a :: .a :: .a :: .m (some 17) ⟨[(16, (vI a.Page)), (14, (vB true))], [], (vB false), [], []⟩ :: .a :: .a :: .a :: .a :: .a :: .a :: .a :: .a :: .a :: .a :: .a :: .a :: .a :: .a :: .a :: .a :: .a :: .a :: .a :: .a :: .a :: .a :: .a :: .a :: []) ⟨StepOK.p rfl rfl rfl (OpOK.call rfl (by kernel_rfl) rfl (by have hq := (ans_in a.ID (1 : Int) (999999 : Int)); rw [hs33] at hq; exact hq) (by kernel_rfl)),
      StepOK.g rfl rfl rfl rfl rfl (by simp) (OpOK.call rfl (by kernel_rfl) rfl (by have hq := (ans_in a.Page (1 : Int) (999999 : Int)); rw [hs36] at hq; exact hq) (by kernel_rfl)), trivial⟩ [(2, (vB false))] [] (by kernel_rfl) (by kernel_rfl) ?_
     refine AWp.ret ?_
     refine fin_of (.inr rfl) (v := (vB false)) (Res.tmp rfl rfl) (h' := []) rfl rfl ?_
     exact ⟨by first | (simp [ansValid, ansLow, ansHigh, *]; done) | (simp [ansValid, ansLow, ansHigh, *]; simp [inB]; done) | (simp [ansValid, ansLow, ansHigh, *]; simp [inB]; omega), rfl⟩
    ·skip
     have ha38 := inB_spec hs36
     cases hs39 : inB a.Person ((-1) : Int) (31 : Int)
     ·skip
      have ha40 := inB_false hs39
      refine AWp.s_reg hGn hGk (.a :: .a :: .m (some 13) ⟨[(12, (vI a.ID))], [], (vB true), [], []⟩ :: .a :: .a :: .a :: .m (some 17) ⟨[(16, (vI a.Page)), (14, (vB true))], [], (vB true), [], []⟩ :: .a :: .a :: .a :: .a :: .m (some 22) ⟨[(21, (vI a.Person)), (19, (vB true))], [], (vB false), [], []⟩ :: .a :: .a :: .a :: .a :: .a :: .a :: .a :: .a :: .a :: .a :: .a :: .a :: .a :: .a :: .a :: .a :: .a :: .a :: .a :: []) ⟨StepOK.p rfl rfl rfl (OpOK.call rfl (by kernel_rfl) rfl (by have hq := (ans_in a.ID (1 : Int) (999999 : Int)); rw [hs33] at hq; exact hq) (by kernel_rfl)),
       StepOK.g rfl rfl rfl rfl rfl (by simp) (OpOK.call rfl (by kernel_rfl) rfl (by have hq := (ans_in a.Page (1 : Int) (999999 : Int)); rw [hs36] at hq; exact hq) (by kernel_rfl)),
       StepOK.g rfl rfl rfl rfl rfl (by simp) (OpOK.call rfl (by kernel_rfl) rfl (by have hq := (ans_in a.Person ((-1) : Int) (31 : Int)); rw [hs39] at hq; exact hq) (by kernel_rfl)), trivial⟩ [(2, (vB false))] [] (by kernel_rfl) (by kernel_rfl) ?_
      refine AWp.ret ?_
      refine fin_of (.inr rfl) (v := (vB false)) (Res.tmp rfl rfl) (h' := []) rfl rfl ?_
      exact ⟨by first | (simp [ansValid, ansLow, ansHigh, *]; done) | (simp [ansValid, ansLow, ansHigh, *]; simp [inB]; done) | (simp [ansValid, ansLow, ansHigh, *]; simp [inB]; omega), rfl⟩
     ·skip
      have ha41 := inB_spec hs39
      cases hs42 : inB a.At (0 : Int) (8589934592 : Int)
      ·skip
       have ha43 := inB_false hs42
       refine AWp.s_reg hGn hGk (.a :: .a :: .m (some 13) ⟨[(12, (vI a.ID))], [], (vB true), [], []⟩ :: .a :: .a :: .a :: .m (some 17) ⟨[(16, (vI a.Page)), (14, (vB true))], [], (vB true), [], []⟩ :: .a :: .a :: .a :: .a :: .m (some 22) ⟨[(21, (vI a.Person)), (19, (vB true))], [], (vB true), [], []⟩ :: .a :: .a :: .a :: .a :: .m (some 27) ⟨[(26, (vI a.At)), (24, (vB true))], [], (vB false), [], []⟩ :: .a :: .a :: .a :: .a :: .a :: .a :: .a :: .a :: .a :: .a :: .a :: .a :: .a :: .a :: []) ⟨StepOK.p rfl rfl rfl (OpOK.call rfl (by kernel_rfl) rfl (by have hq := (ans_in a.ID (1 : Int) (999999 : Int)); rw [hs33] at hq; exact hq) (by kernel_rfl)),
        StepOK.g rfl rfl rfl rfl rfl (by simp) (OpOK.call rfl (by kernel_rfl) rfl (by have hq := (ans_in a.Page (1 : Int) (999999 : Int)); rw [hs36] at hq; exact hq) (by kernel_rfl)),
        StepOK.g rfl rfl rfl rfl rfl (by simp) (OpOK.call rfl (by kernel_rfl) rfl (by have hq := (ans_in a.Person ((-1) : Int) (31 : Int)); rw [hs39] at hq; exact hq) (by kernel_rfl)),
        StepOK.g rfl rfl rfl rfl rfl (by simp) (OpOK.call rfl (by kernel_rfl) rfl (by have hq := (ans_in a.At (0 : Int) (8589934592 : Int)); rw [hs42] at hq; exact hq) (by kernel_rfl)), trivial⟩ [(2, (vB false))] [] (by kernel_rfl) (by kernel_rfl) ?_
       refine AWp.ret ?_
       refine fin_of (.inr rfl) (v := (vB false)) (Res.tmp rfl rfl) (h' := []) rfl rfl ?_
       exact ⟨by first | (simp [ansValid, ansLow, ansHigh, *]; done) | (simp [ansValid, ansLow, ansHigh, *]; simp [inB]; done) | (simp [ansValid, ansLow, ansHigh, *]; simp [inB]; omega), rfl⟩
      ·skip
       have ha44 := inB_spec hs42
       cases hs45 : inB a.Kind (1 : Int) (5 : Int)
       ·skip
        have ha46 := inB_false hs45
        refine AWp.s_reg hGn hGk (.a :: .a :: .m (some 13) ⟨[(12, (vI a.ID))], [], (vB true), [], []⟩ :: .a :: .a :: .a :: .m (some 17) ⟨[(16, (vI a.Page)), (14, (vB true))], [], (vB true), [], []⟩ :: .a :: .a :: .a :: .a :: .m (some 22) ⟨[(21, (vI a.Person)), (19, (vB true))], [], (vB true), [], []⟩ :: .a :: .a :: .a :: .a :: .m (some 27) ⟨[(26, (vI a.At)), (24, (vB true))], [], (vB true), [], []⟩ :: .a :: .a :: .a :: .a :: .m (some 32) ⟨[(31, (vI a.Kind)), (29, (vB true))], [], (vB false), [], []⟩ :: .a :: .a :: .a :: .a :: .a :: .a :: .a :: .a :: .a :: []) ⟨StepOK.p rfl rfl rfl (OpOK.call rfl (by kernel_rfl) rfl (by have hq := (ans_in a.ID (1 : Int) (999999 : Int)); rw [hs33] at hq; exact hq) (by kernel_rfl)),
         StepOK.g rfl rfl rfl rfl rfl (by simp) (OpOK.call rfl (by kernel_rfl) rfl (by have hq := (ans_in a.Page (1 : Int) (999999 : Int)); rw [hs36] at hq; exact hq) (by kernel_rfl)),
         StepOK.g rfl rfl rfl rfl rfl (by simp) (OpOK.call rfl (by kernel_rfl) rfl (by have hq := (ans_in a.Person ((-1) : Int) (31 : Int)); rw [hs39] at hq; exact hq) (by kernel_rfl)),
         StepOK.g rfl rfl rfl rfl rfl (by simp) (OpOK.call rfl (by kernel_rfl) rfl (by have hq := (ans_in a.At (0 : Int) (8589934592 : Int)); rw [hs42] at hq; exact hq) (by kernel_rfl)),
         StepOK.g rfl rfl rfl rfl rfl (by simp) (OpOK.call rfl (by kernel_rfl) rfl (by have hq := (ans_in a.Kind (1 : Int) (5 : Int)); rw [hs45] at hq; exact hq) (by kernel_rfl)), trivial⟩ [(2, (vB false))] [] (by kernel_rfl) (by kernel_rfl) ?_
        refine AWp.ret ?_
        refine fin_of (.inr rfl) (v := (vB false)) (Res.tmp rfl rfl) (h' := []) rfl rfl ?_
        exact ⟨by first | (simp [ansValid, ansLow, ansHigh, *]; done) | (simp [ansValid, ansLow, ansHigh, *]; simp [inB]; done) | (simp [ansValid, ansLow, ansHigh, *]; simp [inB]; omega), rfl⟩
       ·skip
        have ha47 := inB_spec hs45
        refine AWp.s_reg hGn hGk (.a :: .a :: .m (some 13) ⟨[(12, (vI a.ID))], [], (vB true), [], []⟩ :: .a :: .a :: .a :: .m (some 17) ⟨[(16, (vI a.Page)), (14, (vB true))], [], (vB true), [], []⟩ :: .a :: .a :: .a :: .a :: .m (some 22) ⟨[(21, (vI a.Person)), (19, (vB true))], [], (vB true), [], []⟩ :: .a :: .a :: .a :: .a :: .m (some 27) ⟨[(26, (vI a.At)), (24, (vB true))], [], (vB true), [], []⟩ :: .a :: .a :: .a :: .a :: .m (some 32) ⟨[(31, (vI a.Kind)), (29, (vB true))], [], (vB true), [], []⟩ :: .a :: .a :: .a :: .a :: .a :: .a :: .m (some 39) ⟨[(36, (vI a.Arg)), (37, (vI 0)), (38, (vI 0)), (34, (vB true))], [], (vB (inB a.Arg (0 : Int) (0 : Int))), [], []⟩ :: .a :: .a :: []) ⟨StepOK.p rfl rfl rfl (OpOK.call rfl (by kernel_rfl) rfl (by have hq := (ans_in a.ID (1 : Int) (999999 : Int)); rw [hs33] at hq; exact hq) (by kernel_rfl)),
         StepOK.g rfl rfl rfl rfl rfl (by simp) (OpOK.call rfl (by kernel_rfl) rfl (by have hq := (ans_in a.Page (1 : Int) (999999 : Int)); rw [hs36] at hq; exact hq) (by kernel_rfl)),
         StepOK.g rfl rfl rfl rfl rfl (by simp) (OpOK.call rfl (by kernel_rfl) rfl (by have hq := (ans_in a.Person ((-1) : Int) (31 : Int)); rw [hs39] at hq; exact hq) (by kernel_rfl)),
         StepOK.g rfl rfl rfl rfl rfl (by simp) (OpOK.call rfl (by kernel_rfl) rfl (by have hq := (ans_in a.At (0 : Int) (8589934592 : Int)); rw [hs42] at hq; exact hq) (by kernel_rfl)),
         StepOK.g rfl rfl rfl rfl rfl (by simp) (OpOK.call rfl (by kernel_rfl) rfl (by have hq := (ans_in a.Kind (1 : Int) (5 : Int)); rw [hs45] at hq; exact hq) (by kernel_rfl)),
         StepOK.g rfl rfl rfl rfl rfl (by simp) (OpOK.call rfl (by kernel_rfl) rfl (ans_in a.Arg (0 : Int) (0 : Int)) (by kernel_rfl)), trivial⟩ [(2, (vB (inB a.Arg (0 : Int) (0 : Int))))] [] (by kernel_rfl) (by kernel_rfl) ?_
        refine AWp.ret ?_
        refine fin_of (.inr rfl) (v := (vB (inB a.Arg (0 : Int) (0 : Int)))) (Res.tmp rfl rfl) (h' := []) rfl rfl ?_
        exact ⟨by first | (simp [ansValid, ansLow, ansHigh, *]; done) | (simp [ansValid, ansLow, ansHigh, *]; simp [inB]; done) | (simp [ansValid, ansLow, ansHigh, *]; simp [inB]; omega), rfl⟩

theorem ans_Code (p q : Int) :
    SpecIs Tryz.prog 15 [(vI p), (vI q)] [] (vI (ansCode p q)) [] := by
 refine Spec.intro Tryz.func15 rfl (by kernel_rfl) ?_
 intro Γ hGn hGk
 replace hGn : Γ.n = 20 := hGn
 replace hGk : Γ.names = [] := hGk
 refine AWp.weaken (mk [(0, (vI p)), (1, (vI q))] []) (Weak.sub' hGk (by kernel_rfl)) ?_
 refine AWp.s_reg hGn hGk (aa 1) (Man.aa _ _) [(0, (vI p)), (1, (vI q))] [] (by kernel_rfl) (by kernel_rfl) ?_
 refine AWp.seq ?_
 cases hs1 : inB p (1 : Int) (999999 : Int)
 ·skip
  have ha2 := inB_false hs1
  refine AWp.s_reg hGn hGk [.a, .m (some 6) ⟨[(5, (vI p))], [], (vB false), [], []⟩, .a, .a, .a, .a, .a, .a] ⟨StepOK.p rfl rfl rfl (OpOK.call rfl (by kernel_rfl) rfl (by have hq := (ans_in p (1 : Int) (999999 : Int)); rw [hs1] at hq; exact hq) (by kernel_rfl)), trivial⟩ [(0, (vI p)), (1, (vI q)), (12, (vB true))] [] (by kernel_rfl) (by kernel_rfl) ?_
  refine AWp.cond_true rfl ?_
  refine AWp.s_reg hGn hGk (aa 1) (Man.aa _ _) [(4, (vI (-1)))] [] (by kernel_rfl) (by kernel_rfl) ?_
  refine AWp.ret ?_
  refine nextQ_ret ?_
  refine fin_of (.inr rfl) (v := (vI (-1))) (Res.tmp rfl rfl) (h' := []) rfl rfl ?_
  exact ⟨by simp [ansCode, *], rfl⟩
 ·skip
  have ha3 := inB_spec hs1
  refine AWp.s_reg hGn hGk [.a, .m (some 6) ⟨[(5, (vI p))], [], (vB true), [], []⟩, .a, .a, .a, .m (some 10) ⟨[(9, (vI q)), (8, (vB false))], [], (vB (inB q (0 : Int) (31 : Int))), [], []⟩, .a, .a] ⟨StepOK.p rfl rfl rfl (OpOK.call rfl (by kernel_rfl) rfl (by have hq := (ans_in p (1 : Int) (999999 : Int)); rw [hs1] at hq; exact hq) (by kernel_rfl)),
   StepOK.g rfl rfl rfl rfl rfl (by simp) (OpOK.call rfl (by kernel_rfl) rfl (ans_in q (0 : Int) (31 : Int)) (by kernel_rfl)), trivial⟩ [(0, (vI p)), (1, (vI q)), (12, (vB (!(inB q (0 : Int) (31 : Int)))))] [] (by kernel_rfl) (by kernel_rfl) ?_
  refine AWp.cond (!(inB q (0 : Int) (31 : Int))) rfl (fun hc4 => ?_) (fun hc4 => ?_)
  ·skip
   replace hc4 : inB q (0 : Int) (31 : Int) = false := by simpa using hc4
   have ha5 := inB_false hc4
   refine AWp.s_reg hGn hGk (aa 1) (Man.aa _ _) [(4, (vI (-1)))] [] (by kernel_rfl) (by kernel_rfl) ?_
   refine AWp.ret ?_
   refine nextQ_ret ?_
   refine fin_of (.inr rfl) (v := (vI (-1))) (Res.tmp rfl rfl) (h' := []) rfl rfl ?_
   exact ⟨by simp [ansCode, *], rfl⟩
  ·skip
   replace hc4 : inB q (0 : Int) (31 : Int) = true := by simpa using hc4
   have ha6 := inB_spec hc4
   refine AWp.skip ?_
   refine nextQ_normal ?_
   refine AWp.s_reg hGn hGk [.a, .m (some 14) ⟨[(13, (vI p))], [], (vI (7919 * p)), [], []⟩, .a, .m (some 16) ⟨[(15, (vI q))], [], (vI (104729 * q)), [], []⟩, .m (some 17) ⟨[(14, (vI (7919 * p))), (16, (vI (104729 * q)))], [], (vI ((7919 * p) + (104729 * q))), [], []⟩, .m (some 18) ⟨[(17, (vI ((7919 * p) + (104729 * q))))], [], (vI (((7919 * p) + (104729 * q)) + 4711)), [], []⟩, .m (some 19) ⟨[(18, (vI (((7919 * p) + (104729 * q)) + 4711)))], [], (vI ((((7919 * p) + (104729 * q)) + 4711) % 10000)), [], []⟩, .a] ⟨StepOK.p rfl rfl rfl (OpOK.mul rfl rfl rfl (IntWalk.i64_in _ ⟨by omega, by omega⟩)),
    StepOK.p rfl rfl rfl (OpOK.mul rfl rfl rfl (IntWalk.i64_in _ ⟨by omega, by omega⟩)),
    StepOK.p rfl rfl rfl (OpOK.add rfl rfl rfl (IntWalk.i64_in _ ⟨by omega, by omega⟩)),
    StepOK.p rfl rfl rfl (OpOK.add rfl rfl rfl (IntWalk.i64_in _ ⟨by omega, by omega⟩)),
    StepOK.p rfl rfl rfl (OpOK.rem rfl rfl rfl (by omega) (Int.tmod_eq_emod_of_nonneg (by omega))), trivial⟩ [(4, (vI ((((7919 * p) + (104729 * q)) + 4711) % 10000)))] [] (by kernel_rfl) (by kernel_rfl) ?_
   refine AWp.ret ?_
   refine fin_of (.inr rfl) (v := (vI ((((7919 * p) + (104729 * q)) + 4711) % 10000))) (Res.tmp rfl rfl) (h' := []) rfl rfl ?_
   exact ⟨by simp [ansCode, *], rfl⟩

theorem ans_digits (c : Int) (h0 : -1 ≤ c) (h1 : c ≤ 1000000) :
    SpecIs Tryz.prog 44 [(vI c)] [] (vS (digB c)) [] := by
 refine Spec.intro Tryz.func44 rfl (by kernel_rfl) ?_
 intro Γ hGn hGk
 replace hGn : Γ.n = 7 := hGn
 replace hGk : Γ.names = [] := hGk
 refine AWp.weaken (mk [(0, (vI c))] []) (Weak.sub' hGk (by kernel_rfl)) ?_
 refine AWp.s_reg hGn hGk (aa 1) (Man.aa _ _) [(0, (vI c))] [] (by kernel_rfl) (by kernel_rfl) ?_
 refine AWp.s_reg hGn hGk [.a, .m (some 4) ⟨[(3, (vI c))], [], (vI (10000 + c)), [], []⟩, .m (some 5) ⟨[(4, (vI (10000 + c)))], [], (vS (itoaB (10000 + c))), [], []⟩, .m (some 6) ⟨[(5, (vS (itoaB (10000 + c))))], [], (vS (digB c)), [], []⟩, .a] ⟨StepOK.p rfl rfl rfl (OpOK.add rfl rfl rfl (IntWalk.i64_in _ ⟨by omega, by omega⟩)),
  StepOK.p rfl rfl rfl (OpOK.call rfl (by kernel_rfl) rfl (kit_Itoa (10000 + c) (by omega) (by omega)) (by kernel_rfl)),
  StepOK.p rfl rfl rfl (OpOK.sliceS (i := 1) (j := (itoaB (10000 + c)).size) rfl (by kernel_rfl) rfl rfl rfl (itoaB_pos _) (Nat.le_refl _) rfl), trivial⟩ [(2, (vS (digB c)))] [] (by kernel_rfl) (by kernel_rfl) ?_
 refine AWp.ret ?_
 refine fin_of (.inr rfl) (v := (vS (digB c))) (Res.tmp rfl rfl) (h' := []) rfl rfl ?_
 exact ⟨rfl, rfl⟩

theorem ans_verbs  :
    SpecIs Tryz.prog 41 [] [] (.oref true 5001) [(5001, (.obj (smap verbsL)))] := by
 refine Spec.intro Tryz.func41 rfl (by kernel_rfl) ?_
 intro Γ hGn hGk
 replace hGn : Γ.n = 3 := hGn
 replace hGk : Γ.names = [] := hGk
 refine AWp.weaken (mk [] []) (Weak.sub' hGk (by kernel_rfl)) ?_
 refine AWp.s_reg hGn hGk (aa 1) (Man.aa _ _) [] [] (by kernel_rfl) (by kernel_rfl) ?_
 refine AWp.s_reg hGn hGk [.m (some 1) ⟨[], [], (.oref true 5001), [(5001, (.obj (smap [])))], [5001]⟩, .m none ⟨[(1, (.oref true 5001))], [(5001, (.obj (smap [])))], .any, [(5001, (.obj (smap [((ByteArray.mk #[97, 99, 107]), (.int .i64 1))])))], []⟩, .m none ⟨[(1, (.oref true 5001))], [(5001, (.obj (smap [((ByteArray.mk #[97, 99, 107]), (.int .i64 1))])))], .any, [(5001, (.obj (smap [((ByteArray.mk #[97, 99, 107]), (.int .i64 1)), ((ByteArray.mk #[100, 101, 99, 108, 105, 110, 101]), (.int .i64 2))])))], []⟩, .m none ⟨[(1, (.oref true 5001))], [(5001, (.obj (smap [((ByteArray.mk #[97, 99, 107]), (.int .i64 1)), ((ByteArray.mk #[100, 101, 99, 108, 105, 110, 101]), (.int .i64 2))])))], .any, [(5001, (.obj (smap [((ByteArray.mk #[97, 99, 107]), (.int .i64 1)), ((ByteArray.mk #[100, 101, 99, 108, 105, 110, 101]), (.int .i64 2)), ((ByteArray.mk #[115, 110, 111, 111, 122, 101]), (.int .i64 3))])))], []⟩, .m none ⟨[(1, (.oref true 5001))], [(5001, (.obj (smap [((ByteArray.mk #[97, 99, 107]), (.int .i64 1)), ((ByteArray.mk #[100, 101, 99, 108, 105, 110, 101]), (.int .i64 2)), ((ByteArray.mk #[115, 110, 111, 111, 122, 101]), (.int .i64 3))])))], .any, [(5001, (.obj (smap [((ByteArray.mk #[97, 99, 107]), (.int .i64 1)), ((ByteArray.mk #[100, 101, 99, 108, 105, 110, 101]), (.int .i64 2)), ((ByteArray.mk #[115, 110, 111, 111, 122, 101]), (.int .i64 3)), ((ByteArray.mk #[104, 97, 110, 100]), (.int .i64 4))])))], []⟩, .m none ⟨[(1, (.oref true 5001))], [(5001, (.obj (smap [((ByteArray.mk #[97, 99, 107]), (.int .i64 1)), ((ByteArray.mk #[100, 101, 99, 108, 105, 110, 101]), (.int .i64 2)), ((ByteArray.mk #[115, 110, 111, 111, 122, 101]), (.int .i64 3)), ((ByteArray.mk #[104, 97, 110, 100]), (.int .i64 4))])))], .any, [(5001, (.obj (smap [((ByteArray.mk #[97, 99, 107]), (.int .i64 1)), ((ByteArray.mk #[100, 101, 99, 108, 105, 110, 101]), (.int .i64 2)), ((ByteArray.mk #[115, 110, 111, 111, 122, 101]), (.int .i64 3)), ((ByteArray.mk #[104, 97, 110, 100]), (.int .i64 4)), ((ByteArray.mk #[114, 101, 115, 111, 108, 118, 101]), (.int .i64 5))])))], []⟩, .a, .a] ⟨StepOK.p rfl rfl rfl (OpOK.makeMap rfl),
  StepOK.p rfl rfl rfl (OpOK.putS (K := 9) (E := 3) rfl (.inr rfl) (by kernel_rfl) (by kernel_rfl) rfl rfl rfl (by kernel_rfl) rfl),
  StepOK.p rfl rfl rfl (OpOK.putS (K := 9) (E := 3) rfl (.inr rfl) (by kernel_rfl) (by kernel_rfl) rfl rfl rfl (by kernel_rfl) rfl),
  StepOK.p rfl rfl rfl (OpOK.putS (K := 9) (E := 3) rfl (.inr rfl) (by kernel_rfl) (by kernel_rfl) rfl rfl rfl (by kernel_rfl) rfl),
  StepOK.p rfl rfl rfl (OpOK.putS (K := 9) (E := 3) rfl (.inr rfl) (by kernel_rfl) (by kernel_rfl) rfl rfl rfl (by kernel_rfl) rfl),
  StepOK.p rfl rfl rfl (OpOK.putS (K := 9) (E := 3) rfl (.inr rfl) (by kernel_rfl) (by kernel_rfl) rfl rfl rfl (by kernel_rfl) rfl), trivial⟩ [(0, (.oref true 5001))] [(5001, (.obj (smap [((ByteArray.mk #[97, 99, 107]), (.int .i64 1)), ((ByteArray.mk #[100, 101, 99, 108, 105, 110, 101]), (.int .i64 2)), ((ByteArray.mk #[115, 110, 111, 111, 122, 101]), (.int .i64 3)), ((ByteArray.mk #[104, 97, 110, 100]), (.int .i64 4)), ((ByteArray.mk #[114, 101, 115, 111, 108, 118, 101]), (.int .i64 5))])))] (by kernel_rfl) (by kernel_rfl) ?_
 refine AWp.ret ?_
 refine fin_of (.inr rfl) (v := (.oref true 5001)) (Res.tmp rfl rfl) (h' := [(5001, (.obj (smap verbsL)))]) rfl rfl ?_
 exact ⟨rfl, rfl⟩

theorem ans_Format (c : D.Config) (a : D.Answer) (h : CfgOK c) :
    SpecIs Tryz.prog 19 [(.agg [(.p (.sl false 3 (c.Zones.map D.Zone.cells))), (.p (.sl false 6 (c.People.map D.Person.cells))), (.p (.sl false 3 (c.Calendars.map D.Calendar.cells))), (.p (.sl false 3 (c.Schedules.map D.Schedule.cells)))]), (.agg [(vI a.ID), (vI a.Page), (vI a.Person), (vI a.Kind), (vI a.Arg), (vI a.At)])] [] (.tup [(vS ((fmtA c a).1)), (vI ((fmtA c a).2))]) [] := by
 refine Spec.intro Tryz.func19 rfl (by kernel_rfl) ?_
 intro Γ hGn hGk
 replace hGn : Γ.n = 89 := hGn
 replace hGk : Γ.names = [] := hGk
 have hpl := h.plen
 let a'1 : AV := (.p (.sl false 3 (c.Zones.map D.Zone.cells)))
 let a'2 : AV := (.p (.sl false 6 (c.People.map D.Person.cells)))
 let a'3 : AV := (.p (.sl false 3 (c.Calendars.map D.Calendar.cells)))
 let a'4 : AV := (.p (.sl false 3 (c.Schedules.map D.Schedule.cells)))
 let a'5 : AV := (.agg [a'1, a'2, a'3, a'4])
 let a'6 : AV := (.agg [(vI a.ID), (vI a.Page), (vI a.Person), (vI a.Kind), (vI a.Arg), (vI a.At)])
 refine AWp.weaken (mk [(0, a'5), (1, a'6)] []) (Weak.sub' hGk (by kernel_rfl)) ?_
 let a'7 : AO := (.box [a'1, a'2, a'3, a'4])
 let a'8 : AO := (.box [(vI a.ID), (vI a.Page), (vI a.Person), (vI a.Kind), (vI a.Arg), (vI a.At)])
 refine AWp.s_reg hGn hGk (aa 4) (Man.aa _ _) [(2, (.ref 1002 0)), (3, (.ref 1003 0))] [(1002, a'7), (1003, a'8)] (by kernel_rfl) (by kernel_rfl) ?_
 refine AWp.seq ?_
 cases hs1 : ansValid a
 ·skip
  refine AWp.s_reg hGn hGk [.a, .m (some 10) ⟨[(9, a'5)], [], (vI 0), [], []⟩, .a, .a, .a, .m (some 14) ⟨[(13, a'6), (12, (vB false))], [], (vB false), [], []⟩, .a, .a, .a, .a, .a, .a, .a] ⟨StepOK.p rfl rfl rfl (OpOK.call rfl (by kernel_rfl) rfl (res_Check c h) (by kernel_rfl)),
   StepOK.g rfl rfl rfl rfl rfl (by simp) (OpOK.call rfl (by kernel_rfl) rfl (by have hq := (ans_Valid a); rw [hs1] at hq; exact hq) (by kernel_rfl)), trivial⟩ [(2, (.ref 1002 0)), (3, (.ref 1003 0)), (21, (vB true))] [(1002, a'7), (1003, a'8)] (by kernel_rfl) (by kernel_rfl) ?_
  refine AWp.cond_true rfl ?_
  refine AWp.s_reg hGn hGk (aa 2) (Man.aa _ _) [(4, (vS (ByteArray.mk #[]))), (5, (vI 8))] [] (by kernel_rfl) (by kernel_rfl) ?_
  refine AWp.ret ?_
  refine nextQ_ret ?_
  refine fin_of (.inr rfl) (v := (.tup [(vS (ByteArray.mk #[])), (vI 8)])) (Res.many (by kernel_rfl) (Res1s.cons (Res1.tmp rfl) (Res1s.cons (Res1.tmp rfl) Res1s.nil))) (h' := []) rfl rfl ?_
  exact ⟨by rw [fmtA_8 (by first | (left; assumption) | (right; assumption))], rfl⟩
 ·skip
  have ha2 := ansValid_spec hs1
  refine AWp.s_reg hGn hGk [.a, .m (some 10) ⟨[(9, a'5)], [], (vI 0), [], []⟩, .a, .a, .a, .m (some 14) ⟨[(13, a'6), (12, (vB false))], [], (vB true), [], []⟩, .a, .a, .a, .a, .a, .a, .a] ⟨StepOK.p rfl rfl rfl (OpOK.call rfl (by kernel_rfl) rfl (res_Check c h) (by kernel_rfl)),
   StepOK.g rfl rfl rfl rfl rfl (by simp) (OpOK.call rfl (by kernel_rfl) rfl (by have hq := (ans_Valid a); rw [hs1] at hq; exact hq) (by kernel_rfl)), trivial⟩ [(2, (.ref 1002 0)), (3, (.ref 1003 0)), (21, (vB (decide (a.Person = ((-1) : Int)))))] [(1002, a'7), (1003, a'8)] (by kernel_rfl) (by kernel_rfl) ?_
  refine AWp.cond (decide (a.Person = ((-1) : Int))) rfl (fun hc3 => ?_) (fun hc3 => ?_)
  ·skip
   replace hc3 := of_decide_eq_true hc3
   refine AWp.s_reg hGn hGk (aa 2) (Man.aa _ _) [(4, (vS (ByteArray.mk #[]))), (5, (vI 8))] [] (by kernel_rfl) (by kernel_rfl) ?_
   refine AWp.ret ?_
   refine nextQ_ret ?_
   refine fin_of (.inr rfl) (v := (.tup [(vS (ByteArray.mk #[])), (vI 8)])) (Res.many (by kernel_rfl) (Res1s.cons (Res1.tmp rfl) (Res1s.cons (Res1.tmp rfl) Res1s.nil))) (h' := []) rfl rfl ?_
   exact ⟨by rw [fmtA_8 (by first | (left; assumption) | (right; assumption))], rfl⟩
  ·skip
   replace hc3 := of_decide_eq_false hc3
   refine AWp.skip ?_
   refine nextQ_normal ?_
   refine AWp.seq ?_
   by_cases hs4 : ((c.People.length : Nat) : Int) ≤ a.Person
   ·skip
    first | refine AWp.cast (show (mk [(2, (.ref 1002 0)), (3, (.ref 1003 0)), (21, (vB (decide (a.Person = ((-1) : Int)))))] [(1002, (.box [(.p (.sl false 3 (c.Zones.map D.Zone.cells))), (.p (.sl false 6 (c.People.map D.Person.cells))), (.p (.sl false 3 (c.Calendars.map D.Calendar.cells))), (.p (.sl false 3 (c.Schedules.map D.Schedule.cells)))])), (1003, (.box [(vI a.ID), (vI a.Page), (vI a.Person), (vI a.Kind), (vI a.Arg), (vI a.At)]))]) = (mk [(2, (.ref 1002 0)), (3, (.ref 1003 0)), (21, (vB false))] [(1002, (.box [(.p (.sl false 3 (c.Zones.map D.Zone.cells))), (.p (.sl false 6 (c.People.map D.Person.cells))), (.p (.sl false 3 (c.Calendars.map D.Calendar.cells))), (.p (.sl false 3 (c.Schedules.map D.Schedule.cells)))])), (1003, (.box [(vI a.ID), (vI a.Page), (vI a.Person), (vI a.Kind), (vI a.Arg), (vI a.At)]))]) from by rw [(decide_eq_false hc3)]) ?_ | skip
    refine AWp.s_reg hGn hGk [.a, .a, .a, .a, .m (some 26) ⟨[(25, a'2)], [], (vI ((c.People.length : Nat) : Int)), [], []⟩, .m (some 27) ⟨[(23, (vI a.Person)), (26, (vI ((c.People.length : Nat) : Int)))], [], (vB true), [], []⟩, .a, .a, .a, .a, .a, .a, .a, .a, .a, .a, .a, .a, .a] ⟨StepOK.p rfl rfl rfl (OpOK.lenP (e := 75) rfl rfl (by kernel_rfl) rfl (by rw [List.length_map])),
     StepOK.p rfl rfl rfl (OpOK.geq rfl rfl rfl (decide_eq_true hs4)), trivial⟩ [(2, (.ref 1002 0)), (3, (.ref 1003 0)), (40, (vB true))] [(1002, a'7), (1003, a'8)] (by kernel_rfl) (by kernel_rfl) ?_
    refine AWp.cond_true rfl ?_
    refine AWp.s_reg hGn hGk (aa 2) (Man.aa _ _) [(4, (vS (ByteArray.mk #[]))), (5, (vI 3))] [] (by kernel_rfl) (by kernel_rfl) ?_
    refine AWp.ret ?_
    refine nextQ_ret ?_
    refine fin_of (.inr rfl) (v := (.tup [(vS (ByteArray.mk #[])), (vI 3)])) (Res.many (by kernel_rfl) (Res1s.cons (Res1.tmp rfl) (Res1s.cons (Res1.tmp rfl) Res1s.nil))) (h' := []) rfl rfl ?_
    exact ⟨by rw [fmtA_3 (by rintro (hh | hh) <;> first | omega | simp_all) (by first | (left; omega) | (right; constructor <;> omega))], rfl⟩
   ·skip
    first | refine AWp.cast (show (mk [(2, (.ref 1002 0)), (3, (.ref 1003 0)), (21, (vB (decide (a.Person = ((-1) : Int)))))] [(1002, (.box [(.p (.sl false 3 (c.Zones.map D.Zone.cells))), (.p (.sl false 6 (c.People.map D.Person.cells))), (.p (.sl false 3 (c.Calendars.map D.Calendar.cells))), (.p (.sl false 3 (c.Schedules.map D.Schedule.cells)))])), (1003, (.box [(vI a.ID), (vI a.Page), (vI a.Person), (vI a.Kind), (vI a.Arg), (vI a.At)]))]) = (mk [(2, (.ref 1002 0)), (3, (.ref 1003 0)), (21, (vB false))] [(1002, (.box [(.p (.sl false 3 (c.Zones.map D.Zone.cells))), (.p (.sl false 6 (c.People.map D.Person.cells))), (.p (.sl false 3 (c.Calendars.map D.Calendar.cells))), (.p (.sl false 3 (c.Schedules.map D.Schedule.cells)))])), (1003, (.box [(vI a.ID), (vI a.Page), (vI a.Person), (vI a.Kind), (vI a.Arg), (vI a.At)]))]) from by rw [(decide_eq_false hc3)]) ?_ | skip
    by_cases hs5 : a.Kind = (4 : Int)
    ·skip
     refine AWp.s_reg hGn hGk [.a, .a, .a, .a, .m (some 26) ⟨[(25, a'2)], [], (vI ((c.People.length : Nat) : Int)), [], []⟩, .m (some 27) ⟨[(23, (vI a.Person)), (26, (vI ((c.People.length : Nat) : Int)))], [], (vB false), [], []⟩, .a, .a, .a, .m (some 31) ⟨[(30, (vI a.Kind)), (28, (vB false))], [], (vB true), [], []⟩, .a, .a, .a, .a, .a, .m (some 37) ⟨[(36, a'2), (32, (vB true))], [], (vI ((c.People.length : Nat) : Int)), [], []⟩, .a, .a, .a] ⟨StepOK.p rfl rfl rfl (OpOK.lenP (e := 75) rfl rfl (by kernel_rfl) rfl (by rw [List.length_map])),
      StepOK.p rfl rfl rfl (OpOK.geq rfl rfl rfl (decide_eq_false hs4)),
      StepOK.g rfl rfl rfl rfl rfl (by simp) (OpOK.eqlI rfl rfl rfl (decide_eq_true hs5)),
      StepOK.g rfl rfl rfl rfl rfl (by simp) (OpOK.lenP (e := 75) rfl rfl (by kernel_rfl) rfl (by rw [List.length_map])), trivial⟩ [(2, (.ref 1002 0)), (3, (.ref 1003 0)), (40, (vB (decide (((c.People.length : Nat) : Int) ≤ a.Arg))))] [(1002, a'7), (1003, a'8)] (by kernel_rfl) (by kernel_rfl) ?_
     refine AWp.cond (decide (((c.People.length : Nat) : Int) ≤ a.Arg)) rfl (fun hc6 => ?_) (fun hc6 => ?_)
     ·skip
      replace hc6 := of_decide_eq_true hc6
      refine AWp.s_reg hGn hGk (aa 2) (Man.aa _ _) [(4, (vS (ByteArray.mk #[]))), (5, (vI 3))] [] (by kernel_rfl) (by kernel_rfl) ?_
      refine AWp.ret ?_
      refine nextQ_ret ?_
      refine fin_of (.inr rfl) (v := (.tup [(vS (ByteArray.mk #[])), (vI 3)])) (Res.many (by kernel_rfl) (Res1s.cons (Res1.tmp rfl) (Res1s.cons (Res1.tmp rfl) Res1s.nil))) (h' := []) rfl rfl ?_
      exact ⟨by rw [fmtA_3 (by rintro (hh | hh) <;> first | omega | simp_all) (by first | (left; omega) | (right; constructor <;> omega))], rfl⟩
     ·skip
      replace hc6 := of_decide_eq_false hc6
      refine AWp.skip ?_
      refine nextQ_normal ?_
      refine AWp.s_reg hGn hGk (aa 1) (Man.aa _ _) [(2, (.ref 1002 0)), (3, (.ref 1003 0)), (6, (vS (ByteArray.mk #[])))] [(1002, a'7), (1003, a'8)] (by kernel_rfl) (by kernel_rfl) ?_
      refine AWp.seq ?_
      refine AWp.seq ?_
      refine AWp.mapRange (K := 9) (E := 3) (nm := 5001) (ni := 1042) (nf := 7042) (es := verbsL) hGn (StepOK.p (e := ⟨[], [], (.oref true 5001), [(5001, (.obj (smap verbsL)))], [5001]⟩) rfl rfl rfl (OpOK.call rfl (by kernel_rfl) rfl ans_verbs (by kernel_rfl))) rfl rfl (by kernel_rfl) (by kernel_rfl) (by kernel_rfl) rfl (by kernel_rfl) rfl rfl rfl (by kernel_rfl) (by kernel_rfl) (by kernel_rfl) (by kernel_rfl) (by kernel_rfl) rfl rfl rfl (fun mp => ?_)
      refine nextQ_normal ?_
      refine AWp.weaken (mk [(2, (.ref 1002 0)), (3, (.ref 1003 0)), (6, (vS (ByteArray.mk #[]))), (42, (.oref false 1042))] [(1042, (iterO mp verbsL.length (#[]))), (7042, (mapF 5001 mp)), (1002, a'7), (1003, a'8), (5001, (.obj (smap verbsL)))]) (Weak.sub' hGk (by kernel_rfl)) ?_
      refine AWp.block ?_
      refine AWp.loop (fun m s => ∃ (seen : Array Nat), ∃ (tx : ByteArray), s = (mk [(2, (.ref 1002 0)), (3, (.ref 1003 0)), (6, (vS tx)), (42, (.oref false 1042))] [(1042, (iterO mp verbsL.length seen)), (7042, (mapF 5001 mp)), (1002, (.box [(.p (.sl false 3 (c.Zones.map D.Zone.cells))), (.p (.sl false 6 (c.People.map D.Person.cells))), (.p (.sl false 3 (c.Calendars.map D.Calendar.cells))), (.p (.sl false 3 (c.Schedules.map D.Schedule.cells)))])), (1003, (.box [(vI a.ID), (vI a.Page), (vI a.Person), (vI a.Kind), (vI a.Arg), (vI a.At)])), (5001, (.obj (smap verbsL)))]) ∧ (tx = headOf a seen) ∧ m = (leftC seen))
       ⟨_, (#[]), b0, rfl, (headOf_nil a).symm, rfl⟩ ?_
      rintro mm7 s ⟨seen, tx, rfl, htx, hmm7⟩
      refine AWp.seq ?_
      refine AWp.mapNext (es := verbsL) (nm := 5001) (ni := 1042) (nf := 7042) (m := mp) (seen := seen) hGn rfl rfl rfl rfl rfl rfl rfl rfl rfl rfl rfl rfl (by decide) (fun j k v hj hns => ?_) (fun hall => ?_)
      ·skip
       obtain ⟨hj5, rfl, rfl⟩ := verbs_get hj
       refine nextQ_normal ?_
       refine AWp.weaken (mk [(2, (.ref 1002 0)), (3, (.ref 1003 0)), (6, (vS tx)), (42, (.oref false 1042)), (44, (vB true))] [(1042, (iterO mp verbsL.length (seen.push j))), (7042, (mapF 5001 mp)), (1002, a'7), (1003, a'8), (5001, (.obj (smap verbsL)))]) (Weak.sub' hGk (by kernel_rfl)) ?_
       refine AWp.seq ?_
       refine AWp.cond_true rfl ?_
       refine AWp.skip ?_
       refine nextQ_normal ?_
       refine AWp.block ?_
       refine AWp.s_reg hGn hGk [.m (some 45) ⟨[(42, (.oref false 1042))], [(1042, (iterO mp verbsL.length (seen.push j))), (5001, (.obj (smap verbsL))), (7042, (mapF 5001 mp))], (.tup [(vS (verbV ((j : Int) + 1))), (vI ((j : Int) + 1))]), [], []⟩, .a, .a, .a, .a] ⟨StepOK.p rfl rfl rfl (OpOK.entry (nm := 5001) (nf := 7042) rfl rfl hj rfl), trivial⟩ [(2, (.ref 1002 0)), (3, (.ref 1003 0)), (6, (vS tx)), (7, (vS (verbV ((j : Int) + 1)))), (8, (vI ((j : Int) + 1))), (42, (.oref false 1042))] [(1042, (iterO mp verbsL.length (seen.push j))), (7042, (mapF 5001 mp)), (1002, a'7), (1003, a'8), (5001, (.obj (smap verbsL)))] (by kernel_rfl) (by kernel_rfl) ?_
       refine AWp.s_reg hGn hGk (aa 4) (Man.aa _ _) [(2, (.ref 1002 0)), (3, (.ref 1003 0)), (6, (vS tx)), (7, (vS (verbV ((j : Int) + 1)))), (42, (.oref false 1042)), (51, (vB (decide (((j : Int) + 1) = a.Kind))))] [(1042, (iterO mp verbsL.length (seen.push j))), (7042, (mapF 5001 mp)), (1002, a'7), (1003, a'8), (5001, (.obj (smap verbsL)))] (by kernel_rfl) (by kernel_rfl) ?_
       refine AWp.cond (decide (((j : Int) + 1) = a.Kind)) rfl (fun hc8 => ?_) (fun hc8 => ?_)
       ·skip
        replace hc8 := of_decide_eq_true hc8
        have hf9 := ansCode_le a.Page a.Person
        refine AWp.dreg' hGn hGk (by kernel_rfl) [.a, .m (some 53) ⟨[(52, (vS (verbV ((j : Int) + 1))))], [], (vS ((verbV ((j : Int) + 1)) ++ (ByteArray.mk #[32]))), [], []⟩, .a, .a, .m (some 56) ⟨[(55, (vI a.Page))], [], (vS (itoaB a.Page)), [], []⟩, .m (some 57) ⟨[(53, (vS ((verbV ((j : Int) + 1)) ++ (ByteArray.mk #[32])))), (56, (vS (itoaB a.Page)))], [], (vS (((verbV ((j : Int) + 1)) ++ (ByteArray.mk #[32])) ++ (itoaB a.Page))), [], []⟩, .m (some 58) ⟨[(57, (vS (((verbV ((j : Int) + 1)) ++ (ByteArray.mk #[32])) ++ (itoaB a.Page))))], [], (vS ((((verbV ((j : Int) + 1)) ++ (ByteArray.mk #[32])) ++ (itoaB a.Page)) ++ (ByteArray.mk #[32]))), [], []⟩, .a, .a, .a, .a, .m (some 63) ⟨[(60, (vI a.Page)), (62, (vI a.Person))], [], (vI (ansCode a.Page a.Person)), [], []⟩, .m (some 64) ⟨[(63, (vI (ansCode a.Page a.Person)))], [], (vS (digB (ansCode a.Page a.Person))), [], []⟩, .m (some 65) ⟨[(58, (vS ((((verbV ((j : Int) + 1)) ++ (ByteArray.mk #[32])) ++ (itoaB a.Page)) ++ (ByteArray.mk #[32])))), (64, (vS (digB (ansCode a.Page a.Person))))], [], (vS (((((verbV ((j : Int) + 1)) ++ (ByteArray.mk #[32])) ++ (itoaB a.Page)) ++ (ByteArray.mk #[32])) ++ (digB (ansCode a.Page a.Person)))), [], []⟩, .a] ⟨StepOK.p rfl rfl rfl (OpOK.addS rfl rfl rfl (sz_le (m := 7) (n := 1) (verbV_size ((j : Int) + 1)) (show ByteArray.size (ByteArray.mk #[32]) ≤ 1 from Nat.le_refl _) rfl) rfl),
         StepOK.p rfl rfl rfl (OpOK.call rfl (by kernel_rfl) rfl (kit_Itoa a.Page (by omega) (by omega)) (by kernel_rfl)),
         StepOK.p rfl rfl rfl (OpOK.addS rfl rfl rfl (sz_le (m := 8) (n := 21) (sz_app (verbV_size ((j : Int) + 1)) (show ByteArray.size (ByteArray.mk #[32]) ≤ 1 from Nat.le_refl _)) (itoaB_size a.Page (by omega) (by omega)) rfl) rfl),
         StepOK.p rfl rfl rfl (OpOK.addS rfl rfl rfl (sz_le (m := 29) (n := 1) (sz_app (sz_app (verbV_size ((j : Int) + 1)) (show ByteArray.size (ByteArray.mk #[32]) ≤ 1 from Nat.le_refl _)) (itoaB_size a.Page (by omega) (by omega))) (show ByteArray.size (ByteArray.mk #[32]) ≤ 1 from Nat.le_refl _) rfl) rfl),
         StepOK.p rfl rfl rfl (OpOK.call rfl (by kernel_rfl) rfl (ans_Code a.Page a.Person) (by kernel_rfl)),
         StepOK.p rfl rfl rfl (OpOK.call rfl (by kernel_rfl) rfl (ans_digits (ansCode a.Page a.Person) (by omega) (by omega)) (by kernel_rfl)),
         StepOK.p rfl rfl rfl (OpOK.addS rfl rfl rfl (sz_le (m := 30) (n := 21) (sz_app (sz_app (sz_app (verbV_size ((j : Int) + 1)) (show ByteArray.size (ByteArray.mk #[32]) ≤ 1 from Nat.le_refl _)) (itoaB_size a.Page (by omega) (by omega))) (show ByteArray.size (ByteArray.mk #[32]) ≤ 1 from Nat.le_refl _)) (digB_size (ansCode a.Page a.Person) (by omega) (by omega)) rfl) rfl), trivial⟩ [(2, (.ref 1002 0)), (3, (.ref 1003 0)), (6, (vS (((((verbV ((j : Int) + 1)) ++ (ByteArray.mk #[32])) ++ (itoaB a.Page)) ++ (ByteArray.mk #[32])) ++ (digB (ansCode a.Page a.Person))))), (42, (.oref false 1042))] [(1042, (iterO mp verbsL.length (seen.push j))), (7042, (mapF 5001 mp)), (1002, a'7), (1003, a'8), (5001, (.obj (smap verbsL)))] (by kernel_rfl) (by kernel_rfl) (by kernel_rfl) ?_
        refine blockQ_normal ?_
        refine nextQ_normal ⟨_, ?_, (seen.push j), (((((verbV ((j : Int) + 1)) ++ (ByteArray.mk #[32])) ++ (itoaB a.Page)) ++ (ByteArray.mk #[32])) ++ (digB (ansCode a.Page a.Person))), rfl, (headOf_hit (by omega)).symm, rfl⟩
        · have hlp := left_push hj5 hns; omega
       ·skip
        replace hc8 := of_decide_eq_false hc8
        refine AWp.weaken (mk [(2, (.ref 1002 0)), (3, (.ref 1003 0)), (6, (vS tx)), (42, (.oref false 1042))] [(1042, (iterO mp verbsL.length (seen.push j))), (7042, (mapF 5001 mp)), (1002, a'7), (1003, a'8), (5001, (.obj (smap verbsL)))]) (Weak.sub' hGk (by kernel_rfl)) ?_
        refine AWp.skip ?_
        refine blockQ_normal ?_
        refine nextQ_normal ⟨_, ?_, (seen.push j), tx, rfl, (by rw [htx]; exact (headOf_miss (by omega) (by omega)).symm), rfl⟩
        · have hlp := left_push hj5 hns; omega
      ·skip
       refine nextQ_normal ?_
       refine AWp.weaken (mk [(2, (.ref 1002 0)), (3, (.ref 1003 0)), (6, (vS tx)), (42, (.oref false 1042)), (44, (vB false))] [(1042, (iterO mp verbsL.length seen)), (7042, (mapF 5001 mp)), (1002, a'7), (1003, a'8), (5001, (.obj (smap verbsL)))]) (Weak.sub' hGk (by kernel_rfl)) ?_
       refine AWp.seq ?_
       refine AWp.cond_false rfl ?_
       refine AWp.weaken (mk [(2, (.ref 1002 0)), (3, (.ref 1003 0)), (6, (vS tx))] [(7042, (mapF 5001 mp)), (1002, a'7), (1003, a'8), (5001, (.obj (smap verbsL)))]) (Weak.sub' hGk (by kernel_rfl)) ?_
       refine AWp.exit ?_
       refine nextQ_exit ?_
       refine nextQ_exit ?_
       refine blockQ_exit ?_
       refine nextQ_normal ?_
       refine AWp.seq ?_
       obtain rfl : tx = fmtHead a := by rw [htx]; exact headOf_all hall (by omega) (by omega)
       refine AWp.s_reg hGn hGk (aa 2) (Man.aa _ _) [(2, (.ref 1002 0)), (3, (.ref 1003 0)), (6, (vS (fmtHead a))), (67, (vI a.Kind))] [(7042, (mapF 5001 mp)), (1002, a'7), (1003, a'8), (5001, (.obj (smap verbsL)))] (by kernel_rfl) (by kernel_rfl) ?_
       refine AWp.block ?_
       refine AWp.s_reg hGn hGk (aa 2) (Man.aa _ _) [(2, (.ref 1002 0)), (3, (.ref 1003 0)), (6, (vS (fmtHead a))), (67, (vI a.Kind)), (68, (vB (decide (a.Kind = (3 : Int)))))] [(7042, (mapF 5001 mp)), (1002, a'7), (1003, a'8), (5001, (.obj (smap verbsL)))] (by kernel_rfl) (by kernel_rfl) ?_
       refine AWp.cond (decide (a.Kind = (3 : Int))) rfl (fun hc10 => ?_) (fun hc10 => ?_)
       ·skip
        replace hc10 := of_decide_eq_true hc10
        refine AWp.reg' hGn hGk [.a, .a, .a, .m (some 73) ⟨[(72, (vI a.Arg))], [], (vS (itoaB a.Arg)), [], []⟩, .m (some 74) ⟨[(73, (vS (itoaB a.Arg)))], [], (vS ((ByteArray.mk #[32]) ++ (itoaB a.Arg))), [], []⟩, .m (some 75) ⟨[(70, (vS (fmtHead a))), (74, (vS ((ByteArray.mk #[32]) ++ (itoaB a.Arg))))], [], (vS ((fmtHead a) ++ ((ByteArray.mk #[32]) ++ (itoaB a.Arg)))), [], []⟩, .a] ⟨StepOK.p rfl rfl rfl (OpOK.call rfl (by kernel_rfl) rfl (kit_Itoa a.Arg (by omega) (by omega)) (by kernel_rfl)),
         StepOK.p rfl rfl rfl (OpOK.addS rfl rfl rfl (sz_le (m := 1) (n := 21) (show ByteArray.size (ByteArray.mk #[32]) ≤ 1 from Nat.le_refl _) (itoaB_size a.Arg (by omega) (by omega)) rfl) rfl),
         StepOK.p rfl rfl rfl (OpOK.addS rfl rfl rfl (sz_le (m := 60) (n := 22) (fmtHead_size (by omega)) (sz_app (show ByteArray.size (ByteArray.mk #[32]) ≤ 1 from Nat.le_refl _) (itoaB_size a.Arg (by omega) (by omega))) rfl) rfl), trivial⟩ [(6, (vS ((fmtHead a) ++ ((ByteArray.mk #[32]) ++ (itoaB a.Arg)))))] [(7042, (mapF 5001 mp)), (5001, (.obj (smap verbsL)))] (by kernel_rfl) (by kernel_rfl) ?_
        refine blockQ_normal ?_
        refine nextQ_normal ?_
        refine AWp.s_reg hGn hGk (aa 3) (Man.aa _ _) [(4, (vS ((fmtHead a) ++ ((ByteArray.mk #[32]) ++ (itoaB a.Arg))))), (5, (vI 0))] [(7042, (mapF 5001 mp)), (5001, (.obj (smap verbsL)))] (by kernel_rfl) (by kernel_rfl) ?_
        refine AWp.ret ?_
        refine fin_of (.inr rfl) (v := (.tup [(vS ((fmtHead a) ++ ((ByteArray.mk #[32]) ++ (itoaB a.Arg)))), (vI 0)])) (Res.many (by kernel_rfl) (Res1s.cons (Res1.tmp rfl) (Res1s.cons (Res1.tmp rfl) Res1s.nil))) (h' := []) rfl rfl ?_
        exact ⟨by rw [fmtA_0 (by rintro (hh | hh) <;> first | omega | simp_all) (by rintro (hh | hh) <;> omega) (by first | rw [if_pos (by assumption)] | rw [if_neg (by assumption), if_pos (by assumption)] | rw [if_neg (by assumption), if_neg (by assumption)])], rfl⟩
       ·skip
        replace hc10 := of_decide_eq_false hc10
        refine AWp.s_reg hGn hGk [.m (some 77) ⟨[(67, (vI a.Kind))], [], (vB true), [], []⟩, .a] ⟨StepOK.p rfl rfl rfl (OpOK.eqlI rfl rfl rfl (decide_eq_true hs5)), trivial⟩ [(2, (.ref 1002 0)), (3, (.ref 1003 0)), (6, (vS (fmtHead a))), (76, (vB true))] [(7042, (mapF 5001 mp)), (1002, a'7), (1003, a'8), (5001, (.obj (smap verbsL)))] (by kernel_rfl) (by kernel_rfl) ?_
        refine AWp.cond_true rfl ?_
        refine AWp.reg' hGn hGk [.a, .a, .a, .a, .a, .m (some 83) ⟨[(80, a'2), (82, (vI a.Arg))], [], (.eptr [(pS ((nth c.People ((a.Arg).toNat)).Name)), (pI ((nth c.People ((a.Arg).toNat)).Zone)), (.sl false 2 (((nth c.People ((a.Arg).toNat)).Quiet).map D.Window.cells)), (pI ((nth c.People ((a.Arg).toNat)).MaxWeek)), (pI ((nth c.People ((a.Arg).toNat)).MinRest)), (pB ((nth c.People ((a.Arg).toNat)).Consent))]), [], []⟩, .a, .a, .m (some 86) ⟨[(85, (vS ((nth c.People ((a.Arg).toNat)).Name)))], [], (vS ((ByteArray.mk #[32]) ++ ((nth c.People ((a.Arg).toNat)).Name))), [], []⟩, .m (some 87) ⟨[(78, (vS (fmtHead a))), (86, (vS ((ByteArray.mk #[32]) ++ ((nth c.People ((a.Arg).toNat)).Name))))], [], (vS ((fmtHead a) ++ ((ByteArray.mk #[32]) ++ ((nth c.People ((a.Arg).toNat)).Name)))), [], []⟩, .a] ⟨StepOK.p rfl rfl rfl (OpOK.indexP (e := 75) rfl (by kernel_rfl) (by kernel_rfl) rfl rfl (by omega) (map_nth (by omega))),
         StepOK.p rfl rfl rfl (OpOK.addS rfl rfl rfl (sz_le (m := 1) (n := 24) (show ByteArray.size (ByteArray.mk #[32]) ≤ 1 from Nat.le_refl _) (h.nmsize (by omega)) rfl) rfl),
         StepOK.p rfl rfl rfl (OpOK.addS rfl rfl rfl (sz_le (m := 60) (n := 25) (fmtHead_size (by omega)) (sz_app (show ByteArray.size (ByteArray.mk #[32]) ≤ 1 from Nat.le_refl _) (h.nmsize (by omega))) rfl) rfl), trivial⟩ [(6, (vS ((fmtHead a) ++ ((ByteArray.mk #[32]) ++ ((nth c.People ((a.Arg).toNat)).Name)))))] [(7042, (mapF 5001 mp)), (5001, (.obj (smap verbsL)))] (by kernel_rfl) (by kernel_rfl) ?_
        refine blockQ_normal ?_
        refine nextQ_normal ?_
        refine AWp.s_reg hGn hGk (aa 3) (Man.aa _ _) [(4, (vS ((fmtHead a) ++ ((ByteArray.mk #[32]) ++ ((nth c.People ((a.Arg).toNat)).Name))))), (5, (vI 0))] [(7042, (mapF 5001 mp)), (5001, (.obj (smap verbsL)))] (by kernel_rfl) (by kernel_rfl) ?_
        refine AWp.ret ?_
        refine fin_of (.inr rfl) (v := (.tup [(vS ((fmtHead a) ++ ((ByteArray.mk #[32]) ++ ((nth c.People ((a.Arg).toNat)).Name)))), (vI 0)])) (Res.many (by kernel_rfl) (Res1s.cons (Res1.tmp rfl) (Res1s.cons (Res1.tmp rfl) Res1s.nil))) (h' := []) rfl rfl ?_
        exact ⟨by rw [fmtA_0 (by rintro (hh | hh) <;> first | omega | simp_all) (by rintro (hh | hh) <;> omega) (by first | rw [if_pos (by assumption)] | rw [if_neg (by assumption), if_pos (by assumption)] | rw [if_neg (by assumption), if_neg (by assumption)])], rfl⟩
    ·skip
     refine AWp.s_reg hGn hGk [.a, .a, .a, .a, .m (some 26) ⟨[(25, a'2)], [], (vI ((c.People.length : Nat) : Int)), [], []⟩, .m (some 27) ⟨[(23, (vI a.Person)), (26, (vI ((c.People.length : Nat) : Int)))], [], (vB false), [], []⟩, .a, .a, .a, .m (some 31) ⟨[(30, (vI a.Kind)), (28, (vB false))], [], (vB false), [], []⟩, .a, .a, .a, .a, .a, .a, .a, .a, .a] ⟨StepOK.p rfl rfl rfl (OpOK.lenP (e := 75) rfl rfl (by kernel_rfl) rfl (by rw [List.length_map])),
      StepOK.p rfl rfl rfl (OpOK.geq rfl rfl rfl (decide_eq_false hs4)),
      StepOK.g rfl rfl rfl rfl rfl (by simp) (OpOK.eqlI rfl rfl rfl (decide_eq_false hs5)), trivial⟩ [(2, (.ref 1002 0)), (3, (.ref 1003 0)), (40, (vB false))] [(1002, a'7), (1003, a'8)] (by kernel_rfl) (by kernel_rfl) ?_
     refine AWp.cond_false rfl ?_
     refine AWp.skip ?_
     refine nextQ_normal ?_
     refine AWp.s_reg hGn hGk (aa 1) (Man.aa _ _) [(2, (.ref 1002 0)), (3, (.ref 1003 0)), (6, (vS (ByteArray.mk #[])))] [(1002, a'7), (1003, a'8)] (by kernel_rfl) (by kernel_rfl) ?_
     refine AWp.seq ?_
     refine AWp.seq ?_
     refine AWp.mapRange (K := 9) (E := 3) (nm := 5001) (ni := 1042) (nf := 7042) (es := verbsL) hGn (StepOK.p (e := ⟨[], [], (.oref true 5001), [(5001, (.obj (smap verbsL)))], [5001]⟩) rfl rfl rfl (OpOK.call rfl (by kernel_rfl) rfl ans_verbs (by kernel_rfl))) rfl rfl (by kernel_rfl) (by kernel_rfl) (by kernel_rfl) rfl (by kernel_rfl) rfl rfl rfl (by kernel_rfl) (by kernel_rfl) (by kernel_rfl) (by kernel_rfl) (by kernel_rfl) rfl rfl rfl (fun mp => ?_)
     refine nextQ_normal ?_
     refine AWp.weaken (mk [(2, (.ref 1002 0)), (3, (.ref 1003 0)), (6, (vS (ByteArray.mk #[]))), (42, (.oref false 1042))] [(1042, (iterO mp verbsL.length (#[]))), (7042, (mapF 5001 mp)), (1002, a'7), (1003, a'8), (5001, (.obj (smap verbsL)))]) (Weak.sub' hGk (by kernel_rfl)) ?_
     refine AWp.block ?_
     refine AWp.loop (fun m s => ∃ (seen : Array Nat), ∃ (tx : ByteArray), s = (mk [(2, (.ref 1002 0)), (3, (.ref 1003 0)), (6, (vS tx)), (42, (.oref false 1042))] [(1042, (iterO mp verbsL.length seen)), (7042, (mapF 5001 mp)), (1002, (.box [(.p (.sl false 3 (c.Zones.map D.Zone.cells))), (.p (.sl false 6 (c.People.map D.Person.cells))), (.p (.sl false 3 (c.Calendars.map D.Calendar.cells))), (.p (.sl false 3 (c.Schedules.map D.Schedule.cells)))])), (1003, (.box [(vI a.ID), (vI a.Page), (vI a.Person), (vI a.Kind), (vI a.Arg), (vI a.At)])), (5001, (.obj (smap verbsL)))]) ∧ (tx = headOf a seen) ∧ m = (leftC seen))
      ⟨_, (#[]), b0, rfl, (headOf_nil a).symm, rfl⟩ ?_
     rintro mm11 s ⟨seen, tx, rfl, htx, hmm11⟩
     refine AWp.seq ?_
     refine AWp.mapNext (es := verbsL) (nm := 5001) (ni := 1042) (nf := 7042) (m := mp) (seen := seen) hGn rfl rfl rfl rfl rfl rfl rfl rfl rfl rfl rfl rfl (by decide) (fun j k v hj hns => ?_) (fun hall => ?_)
     ·skip
      obtain ⟨hj5, rfl, rfl⟩ := verbs_get hj
      refine nextQ_normal ?_
      refine AWp.weaken (mk [(2, (.ref 1002 0)), (3, (.ref 1003 0)), (6, (vS tx)), (42, (.oref false 1042)), (44, (vB true))] [(1042, (iterO mp verbsL.length (seen.push j))), (7042, (mapF 5001 mp)), (1002, a'7), (1003, a'8), (5001, (.obj (smap verbsL)))]) (Weak.sub' hGk (by kernel_rfl)) ?_
      refine AWp.seq ?_
      refine AWp.cond_true rfl ?_
      refine AWp.skip ?_
      refine nextQ_normal ?_
      refine AWp.block ?_
      refine AWp.s_reg hGn hGk [.m (some 45) ⟨[(42, (.oref false 1042))], [(1042, (iterO mp verbsL.length (seen.push j))), (5001, (.obj (smap verbsL))), (7042, (mapF 5001 mp))], (.tup [(vS (verbV ((j : Int) + 1))), (vI ((j : Int) + 1))]), [], []⟩, .a, .a, .a, .a] ⟨StepOK.p rfl rfl rfl (OpOK.entry (nm := 5001) (nf := 7042) rfl rfl hj rfl), trivial⟩ [(2, (.ref 1002 0)), (3, (.ref 1003 0)), (6, (vS tx)), (7, (vS (verbV ((j : Int) + 1)))), (8, (vI ((j : Int) + 1))), (42, (.oref false 1042))] [(1042, (iterO mp verbsL.length (seen.push j))), (7042, (mapF 5001 mp)), (1002, a'7), (1003, a'8), (5001, (.obj (smap verbsL)))] (by kernel_rfl) (by kernel_rfl) ?_
      refine AWp.s_reg hGn hGk (aa 4) (Man.aa _ _) [(2, (.ref 1002 0)), (3, (.ref 1003 0)), (6, (vS tx)), (7, (vS (verbV ((j : Int) + 1)))), (42, (.oref false 1042)), (51, (vB (decide (((j : Int) + 1) = a.Kind))))] [(1042, (iterO mp verbsL.length (seen.push j))), (7042, (mapF 5001 mp)), (1002, a'7), (1003, a'8), (5001, (.obj (smap verbsL)))] (by kernel_rfl) (by kernel_rfl) ?_
      refine AWp.cond (decide (((j : Int) + 1) = a.Kind)) rfl (fun hc12 => ?_) (fun hc12 => ?_)
      ·skip
       replace hc12 := of_decide_eq_true hc12
       have hf13 := ansCode_le a.Page a.Person
       refine AWp.dreg' hGn hGk (by kernel_rfl) [.a, .m (some 53) ⟨[(52, (vS (verbV ((j : Int) + 1))))], [], (vS ((verbV ((j : Int) + 1)) ++ (ByteArray.mk #[32]))), [], []⟩, .a, .a, .m (some 56) ⟨[(55, (vI a.Page))], [], (vS (itoaB a.Page)), [], []⟩, .m (some 57) ⟨[(53, (vS ((verbV ((j : Int) + 1)) ++ (ByteArray.mk #[32])))), (56, (vS (itoaB a.Page)))], [], (vS (((verbV ((j : Int) + 1)) ++ (ByteArray.mk #[32])) ++ (itoaB a.Page))), [], []⟩, .m (some 58) ⟨[(57, (vS (((verbV ((j : Int) + 1)) ++ (ByteArray.mk #[32])) ++ (itoaB a.Page))))], [], (vS ((((verbV ((j : Int) + 1)) ++ (ByteArray.mk #[32])) ++ (itoaB a.Page)) ++ (ByteArray.mk #[32]))), [], []⟩, .a, .a, .a, .a, .m (some 63) ⟨[(60, (vI a.Page)), (62, (vI a.Person))], [], (vI (ansCode a.Page a.Person)), [], []⟩, .m (some 64) ⟨[(63, (vI (ansCode a.Page a.Person)))], [], (vS (digB (ansCode a.Page a.Person))), [], []⟩, .m (some 65) ⟨[(58, (vS ((((verbV ((j : Int) + 1)) ++ (ByteArray.mk #[32])) ++ (itoaB a.Page)) ++ (ByteArray.mk #[32])))), (64, (vS (digB (ansCode a.Page a.Person))))], [], (vS (((((verbV ((j : Int) + 1)) ++ (ByteArray.mk #[32])) ++ (itoaB a.Page)) ++ (ByteArray.mk #[32])) ++ (digB (ansCode a.Page a.Person)))), [], []⟩, .a] ⟨StepOK.p rfl rfl rfl (OpOK.addS rfl rfl rfl (sz_le (m := 7) (n := 1) (verbV_size ((j : Int) + 1)) (show ByteArray.size (ByteArray.mk #[32]) ≤ 1 from Nat.le_refl _) rfl) rfl),
        StepOK.p rfl rfl rfl (OpOK.call rfl (by kernel_rfl) rfl (kit_Itoa a.Page (by omega) (by omega)) (by kernel_rfl)),
        StepOK.p rfl rfl rfl (OpOK.addS rfl rfl rfl (sz_le (m := 8) (n := 21) (sz_app (verbV_size ((j : Int) + 1)) (show ByteArray.size (ByteArray.mk #[32]) ≤ 1 from Nat.le_refl _)) (itoaB_size a.Page (by omega) (by omega)) rfl) rfl),
        StepOK.p rfl rfl rfl (OpOK.addS rfl rfl rfl (sz_le (m := 29) (n := 1) (sz_app (sz_app (verbV_size ((j : Int) + 1)) (show ByteArray.size (ByteArray.mk #[32]) ≤ 1 from Nat.le_refl _)) (itoaB_size a.Page (by omega) (by omega))) (show ByteArray.size (ByteArray.mk #[32]) ≤ 1 from Nat.le_refl _) rfl) rfl),
        StepOK.p rfl rfl rfl (OpOK.call rfl (by kernel_rfl) rfl (ans_Code a.Page a.Person) (by kernel_rfl)),
        StepOK.p rfl rfl rfl (OpOK.call rfl (by kernel_rfl) rfl (ans_digits (ansCode a.Page a.Person) (by omega) (by omega)) (by kernel_rfl)),
        StepOK.p rfl rfl rfl (OpOK.addS rfl rfl rfl (sz_le (m := 30) (n := 21) (sz_app (sz_app (sz_app (verbV_size ((j : Int) + 1)) (show ByteArray.size (ByteArray.mk #[32]) ≤ 1 from Nat.le_refl _)) (itoaB_size a.Page (by omega) (by omega))) (show ByteArray.size (ByteArray.mk #[32]) ≤ 1 from Nat.le_refl _)) (digB_size (ansCode a.Page a.Person) (by omega) (by omega)) rfl) rfl), trivial⟩ [(2, (.ref 1002 0)), (3, (.ref 1003 0)), (6, (vS (((((verbV ((j : Int) + 1)) ++ (ByteArray.mk #[32])) ++ (itoaB a.Page)) ++ (ByteArray.mk #[32])) ++ (digB (ansCode a.Page a.Person))))), (42, (.oref false 1042))] [(1042, (iterO mp verbsL.length (seen.push j))), (7042, (mapF 5001 mp)), (1002, a'7), (1003, a'8), (5001, (.obj (smap verbsL)))] (by kernel_rfl) (by kernel_rfl) (by kernel_rfl) ?_
       refine blockQ_normal ?_
       refine nextQ_normal ⟨_, ?_, (seen.push j), (((((verbV ((j : Int) + 1)) ++ (ByteArray.mk #[32])) ++ (itoaB a.Page)) ++ (ByteArray.mk #[32])) ++ (digB (ansCode a.Page a.Person))), rfl, (headOf_hit (by omega)).symm, rfl⟩
       · have hlp := left_push hj5 hns; omega
      ·skip
       replace hc12 := of_decide_eq_false hc12
       refine AWp.weaken (mk [(2, (.ref 1002 0)), (3, (.ref 1003 0)), (6, (vS tx)), (42, (.oref false 1042))] [(1042, (iterO mp verbsL.length (seen.push j))), (7042, (mapF 5001 mp)), (1002, a'7), (1003, a'8), (5001, (.obj (smap verbsL)))]) (Weak.sub' hGk (by kernel_rfl)) ?_
       refine AWp.skip ?_
       refine blockQ_normal ?_
       refine nextQ_normal ⟨_, ?_, (seen.push j), tx, rfl, (by rw [htx]; exact (headOf_miss (by omega) (by omega)).symm), rfl⟩
       · have hlp := left_push hj5 hns; omega
     ·skip
      refine nextQ_normal ?_
      refine AWp.weaken (mk [(2, (.ref 1002 0)), (3, (.ref 1003 0)), (6, (vS tx)), (42, (.oref false 1042)), (44, (vB false))] [(1042, (iterO mp verbsL.length seen)), (7042, (mapF 5001 mp)), (1002, a'7), (1003, a'8), (5001, (.obj (smap verbsL)))]) (Weak.sub' hGk (by kernel_rfl)) ?_
      refine AWp.seq ?_
      refine AWp.cond_false rfl ?_
      refine AWp.weaken (mk [(2, (.ref 1002 0)), (3, (.ref 1003 0)), (6, (vS tx))] [(7042, (mapF 5001 mp)), (1002, a'7), (1003, a'8), (5001, (.obj (smap verbsL)))]) (Weak.sub' hGk (by kernel_rfl)) ?_
      refine AWp.exit ?_
      refine nextQ_exit ?_
      refine nextQ_exit ?_
      refine blockQ_exit ?_
      refine nextQ_normal ?_
      refine AWp.seq ?_
      obtain rfl : tx = fmtHead a := by rw [htx]; exact headOf_all hall (by omega) (by omega)
      refine AWp.s_reg hGn hGk (aa 2) (Man.aa _ _) [(2, (.ref 1002 0)), (3, (.ref 1003 0)), (6, (vS (fmtHead a))), (67, (vI a.Kind))] [(7042, (mapF 5001 mp)), (1002, a'7), (1003, a'8), (5001, (.obj (smap verbsL)))] (by kernel_rfl) (by kernel_rfl) ?_
      refine AWp.block ?_
      refine AWp.s_reg hGn hGk (aa 2) (Man.aa _ _) [(2, (.ref 1002 0)), (3, (.ref 1003 0)), (6, (vS (fmtHead a))), (67, (vI a.Kind)), (68, (vB (decide (a.Kind = (3 : Int)))))] [(7042, (mapF 5001 mp)), (1002, a'7), (1003, a'8), (5001, (.obj (smap verbsL)))] (by kernel_rfl) (by kernel_rfl) ?_
      refine AWp.cond (decide (a.Kind = (3 : Int))) rfl (fun hc14 => ?_) (fun hc14 => ?_)
      ·skip
       replace hc14 := of_decide_eq_true hc14
       refine AWp.reg' hGn hGk [.a, .a, .a, .m (some 73) ⟨[(72, (vI a.Arg))], [], (vS (itoaB a.Arg)), [], []⟩, .m (some 74) ⟨[(73, (vS (itoaB a.Arg)))], [], (vS ((ByteArray.mk #[32]) ++ (itoaB a.Arg))), [], []⟩, .m (some 75) ⟨[(70, (vS (fmtHead a))), (74, (vS ((ByteArray.mk #[32]) ++ (itoaB a.Arg))))], [], (vS ((fmtHead a) ++ ((ByteArray.mk #[32]) ++ (itoaB a.Arg)))), [], []⟩, .a] ⟨StepOK.p rfl rfl rfl (OpOK.call rfl (by kernel_rfl) rfl (kit_Itoa a.Arg (by omega) (by omega)) (by kernel_rfl)),
        StepOK.p rfl rfl rfl (OpOK.addS rfl rfl rfl (sz_le (m := 1) (n := 21) (show ByteArray.size (ByteArray.mk #[32]) ≤ 1 from Nat.le_refl _) (itoaB_size a.Arg (by omega) (by omega)) rfl) rfl),
        StepOK.p rfl rfl rfl (OpOK.addS rfl rfl rfl (sz_le (m := 60) (n := 22) (fmtHead_size (by omega)) (sz_app (show ByteArray.size (ByteArray.mk #[32]) ≤ 1 from Nat.le_refl _) (itoaB_size a.Arg (by omega) (by omega))) rfl) rfl), trivial⟩ [(6, (vS ((fmtHead a) ++ ((ByteArray.mk #[32]) ++ (itoaB a.Arg)))))] [(7042, (mapF 5001 mp)), (5001, (.obj (smap verbsL)))] (by kernel_rfl) (by kernel_rfl) ?_
       refine blockQ_normal ?_
       refine nextQ_normal ?_
       refine AWp.s_reg hGn hGk (aa 3) (Man.aa _ _) [(4, (vS ((fmtHead a) ++ ((ByteArray.mk #[32]) ++ (itoaB a.Arg))))), (5, (vI 0))] [(7042, (mapF 5001 mp)), (5001, (.obj (smap verbsL)))] (by kernel_rfl) (by kernel_rfl) ?_
       refine AWp.ret ?_
       refine fin_of (.inr rfl) (v := (.tup [(vS ((fmtHead a) ++ ((ByteArray.mk #[32]) ++ (itoaB a.Arg)))), (vI 0)])) (Res.many (by kernel_rfl) (Res1s.cons (Res1.tmp rfl) (Res1s.cons (Res1.tmp rfl) Res1s.nil))) (h' := []) rfl rfl ?_
       exact ⟨by rw [fmtA_0 (by rintro (hh | hh) <;> first | omega | simp_all) (by rintro (hh | hh) <;> omega) (by first | rw [if_pos (by assumption)] | rw [if_neg (by assumption), if_pos (by assumption)] | rw [if_neg (by assumption), if_neg (by assumption)])], rfl⟩
      ·skip
       replace hc14 := of_decide_eq_false hc14
       refine AWp.s_reg hGn hGk [.m (some 77) ⟨[(67, (vI a.Kind))], [], (vB false), [], []⟩, .a] ⟨StepOK.p rfl rfl rfl (OpOK.eqlI rfl rfl rfl (decide_eq_false hs5)), trivial⟩ [(2, (.ref 1002 0)), (3, (.ref 1003 0)), (6, (vS (fmtHead a))), (76, (vB false))] [(7042, (mapF 5001 mp)), (1002, a'7), (1003, a'8), (5001, (.obj (smap verbsL)))] (by kernel_rfl) (by kernel_rfl) ?_
       refine AWp.cond_false rfl ?_
       refine AWp.skip ?_
       refine blockQ_normal ?_
       refine nextQ_normal ?_
       refine AWp.s_reg hGn hGk (aa 3) (Man.aa _ _) [(4, (vS (fmtHead a))), (5, (vI 0))] [(7042, (mapF 5001 mp)), (5001, (.obj (smap verbsL)))] (by kernel_rfl) (by kernel_rfl) ?_
       refine AWp.ret ?_
       refine fin_of (.inr rfl) (v := (.tup [(vS (fmtHead a)), (vI 0)])) (Res.many (by kernel_rfl) (Res1s.cons (Res1.tmp rfl) (Res1s.cons (Res1.tmp rfl) Res1s.nil))) (h' := []) rfl rfl ?_
       exact ⟨by rw [fmtA_0 (by rintro (hh | hh) <;> first | omega | simp_all) (by rintro (hh | hh) <;> omega) (by first | rw [if_pos (by assumption)] | rw [if_neg (by assumption), if_pos (by assumption)] | rw [if_neg (by assumption), if_neg (by assumption)])], rfl⟩

theorem ans_number (s : ByteArray) (g : Int) (hs : s.size ≤ 281474976710656) :
    SpecIs Tryz.prog 43 [(vS s), (vI g)] [] (.tup [(vI (atoiV s)), (vB (numOK s g))]) [] := by
 refine Spec.intro Tryz.func43 rfl (by kernel_rfl) ?_
 intro Γ hGn hGk
 replace hGn : Γ.n = 27 := hGn
 replace hGk : Γ.names = [] := hGk
 refine AWp.weaken (mk [(0, (vS s)), (1, (vI g))] []) (Weak.sub' hGk (by kernel_rfl)) ?_
 refine AWp.s_reg hGn hGk (aa 2) (Man.aa _ _) [(0, (vS s)), (1, (vI g))] [] (by kernel_rfl) (by kernel_rfl) ?_
 have hf1 := atoiV_in s
 refine AWp.s_reg hGn hGk [.a, .m (some 10) ⟨[(9, (vS s))], [], (.tup [(vI (atoiV s)), (.err (atoiK s))]), [], []⟩, .a, .a, .a, .a, .a] ⟨StepOK.p rfl rfl rfl (OpOK.call rfl (by kernel_rfl) rfl (kit_Atoi s (by omega)) (by kernel_rfl)), trivial⟩ [(0, (vS s)), (1, (vI g)), (6, (vI (atoiV s))), (7, (.err (atoiK s)))] [] (by kernel_rfl) (by kernel_rfl) ?_
 cases hs2 : atoiK s
 ·skip
  first | refine AWp.cast (show (mk [(0, (vS s)), (1, (vI g)), (6, (vI (atoiV s))), (7, (.err (atoiK s)))] []) = (mk [(0, (vS s)), (1, (vI g)), (6, (vI (atoiV s))), (7, (.err false))] []) from by rw [hs2]) ?_ | skip
  refine AWp.s_reg hGn hGk [.a, .a, .m (some 15) ⟨[(14, (.err false))], [], (vB false), [], []⟩, .a, .a, .a, .a, .a, .a, .a, .a, .a, .a, .a, .a, .a] ⟨StepOK.p rfl rfl rfl (OpOK.eqlE rfl (by kernel_rfl) rfl rfl), trivial⟩ [(4, (vI (atoiV s))), (5, (vB false))] [] (by kernel_rfl) (by kernel_rfl) ?_
  refine AWp.ret ?_
  refine fin_of (.inr rfl) (v := (.tup [(vI (atoiV s)), (vB false)])) (Res.many (by kernel_rfl) (Res1s.cons (Res1.tmp rfl) (Res1s.cons (Res1.tmp rfl) Res1s.nil))) (h' := []) rfl rfl ?_
  exact ⟨by simp [numOK, *], rfl⟩
 ·skip
  first | refine AWp.cast (show (mk [(0, (vS s)), (1, (vI g)), (6, (vI (atoiV s))), (7, (.err (atoiK s)))] []) = (mk [(0, (vS s)), (1, (vI g)), (6, (vI (atoiV s))), (7, (.err true))] []) from by rw [hs2]) ?_ | skip
  by_cases hs3 : (itoaB (atoiV s)) = s
  ·skip
   refine AWp.s_reg hGn hGk [.a, .a, .m (some 15) ⟨[(14, (.err true))], [], (vB true), [], []⟩, .a, .a, .m (some 18) ⟨[(17, (vI (atoiV s))), (16, (vB true))], [], (vS (itoaB (atoiV s))), [], []⟩, .a, .m (some 20) ⟨[(18, (vS (itoaB (atoiV s)))), (19, (vS s)), (16, (vB true))], [], (vB true), [], []⟩, .a, .a, .a, .a, .m (some 25) ⟨[(23, (vI (atoiV s))), (24, (vI g)), (22, (vB true))], [], (vB (inB (atoiV s) (1 : Int) g)), [], []⟩, .a, .a, .a] ⟨StepOK.p rfl rfl rfl (OpOK.eqlE rfl (by kernel_rfl) rfl rfl),
    StepOK.g rfl rfl rfl rfl rfl (by simp) (OpOK.call rfl (by kernel_rfl) rfl (kit_Itoa (atoiV s) (by omega) (by omega)) (by kernel_rfl)),
    StepOK.g rfl rfl rfl rfl rfl (by simp) (OpOK.eqlS rfl rfl rfl (decide_eq_true hs3)),
    StepOK.g rfl rfl rfl rfl rfl (by simp) (OpOK.call rfl (by kernel_rfl) rfl (ans_in (atoiV s) (1 : Int) g) (by kernel_rfl)), trivial⟩ [(4, (vI (atoiV s))), (5, (vB (inB (atoiV s) (1 : Int) g)))] [] (by kernel_rfl) (by kernel_rfl) ?_
   refine AWp.ret ?_
   refine fin_of (.inr rfl) (v := (.tup [(vI (atoiV s)), (vB (inB (atoiV s) (1 : Int) g))])) (Res.many (by kernel_rfl) (Res1s.cons (Res1.tmp rfl) (Res1s.cons (Res1.tmp rfl) Res1s.nil))) (h' := []) rfl rfl ?_
   exact ⟨by simp [numOK, *], rfl⟩
  ·skip
   refine AWp.s_reg hGn hGk [.a, .a, .m (some 15) ⟨[(14, (.err true))], [], (vB true), [], []⟩, .a, .a, .m (some 18) ⟨[(17, (vI (atoiV s))), (16, (vB true))], [], (vS (itoaB (atoiV s))), [], []⟩, .a, .m (some 20) ⟨[(18, (vS (itoaB (atoiV s)))), (19, (vS s)), (16, (vB true))], [], (vB false), [], []⟩, .a, .a, .a, .a, .a, .a, .a, .a] ⟨StepOK.p rfl rfl rfl (OpOK.eqlE rfl (by kernel_rfl) rfl rfl),
    StepOK.g rfl rfl rfl rfl rfl (by simp) (OpOK.call rfl (by kernel_rfl) rfl (kit_Itoa (atoiV s) (by omega) (by omega)) (by kernel_rfl)),
    StepOK.g rfl rfl rfl rfl rfl (by simp) (OpOK.eqlS rfl rfl rfl (decide_eq_false hs3)), trivial⟩ [(4, (vI (atoiV s))), (5, (vB false))] [] (by kernel_rfl) (by kernel_rfl) ?_
   refine AWp.ret ?_
   refine fin_of (.inr rfl) (v := (.tup [(vI (atoiV s)), (vB false)])) (Res.many (by kernel_rfl) (Res1s.cons (Res1.tmp rfl) (Res1s.cons (Res1.tmp rfl) Res1s.nil))) (h' := []) rfl rfl ?_
   exact ⟨by simp [numOK, *], rfl⟩

theorem ans_code (s : ByteArray) (hs : s.size ≤ 281474976710656) :
    SpecIs Tryz.prog 42 [(vS s)] [] (vB (codeOK s)) [] := by
 refine Spec.intro Tryz.func42 rfl (by kernel_rfl) ?_
 intro Γ hGn hGk
 replace hGn : Γ.n = 27 := hGn
 replace hGk : Γ.names = [] := hGk
 refine AWp.weaken (mk [(0, (vS s))] []) (Weak.sub' hGk (by kernel_rfl)) ?_
 refine AWp.s_reg hGn hGk (aa 1) (Man.aa _ _) [(0, (vS s))] [] (by kernel_rfl) (by kernel_rfl) ?_
 have hf1 := atoiV_in s
 refine AWp.s_reg hGn hGk [.a, .m (some 7) ⟨[(6, (vS s))], [], (.tup [(vI (atoiV s)), (.err (atoiK s))]), [], []⟩, .a, .a, .a, .a, .a] ⟨StepOK.p rfl rfl rfl (OpOK.call rfl (by kernel_rfl) rfl (kit_Atoi s (by omega)) (by kernel_rfl)), trivial⟩ [(0, (vS s)), (3, (vI (atoiV s))), (4, (.err (atoiK s)))] [] (by kernel_rfl) (by kernel_rfl) ?_
 cases hs2 : atoiK s
 ·skip
  first | refine AWp.cast (show (mk [(0, (vS s)), (3, (vI (atoiV s))), (4, (.err (atoiK s)))] []) = (mk [(0, (vS s)), (3, (vI (atoiV s))), (4, (.err false))] []) from by rw [hs2]) ?_ | skip
  refine AWp.s_reg hGn hGk [.a, .m (some 11) ⟨[(10, (.err false))], [], (vB false), [], []⟩, .a, .a, .a, .a, .a, .a, .a, .a, .a, .a, .a, .a, .a, .a, .a, .a] ⟨StepOK.p rfl rfl rfl (OpOK.eqlE rfl (by kernel_rfl) rfl rfl), trivial⟩ [(2, (vB false))] [] (by kernel_rfl) (by kernel_rfl) ?_
  refine AWp.ret ?_
  refine fin_of (.inr rfl) (v := (vB false)) (Res.tmp rfl rfl) (h' := []) rfl rfl ?_
  exact ⟨by first | (simp [codeOK, *]; done) | (simp [codeOK, *]; intros; omega), rfl⟩
 ·skip
  first | refine AWp.cast (show (mk [(0, (vS s)), (3, (vI (atoiV s))), (4, (.err (atoiK s)))] []) = (mk [(0, (vS s)), (3, (vI (atoiV s))), (4, (.err true))] []) from by rw [hs2]) ?_ | skip
  by_cases hs3 : ((s.size : Nat) : Int) = (4 : Int)
  ·skip
   by_cases hs4 : (0 : Int) ≤ (atoiV s)
   ·skip
    refine AWp.s_reg hGn hGk [.a, .m (some 11) ⟨[(10, (.err true))], [], (vB true), [], []⟩, .a, .a, .m (some 14) ⟨[(13, (vS s)), (12, (vB true))], [], (vI ((s.size : Nat) : Int)), [], []⟩, .m (some 15) ⟨[(14, (vI ((s.size : Nat) : Int))), (12, (vB true))], [], (vB true), [], []⟩, .a, .a, .a, .m (some 19) ⟨[(18, (vI (atoiV s))), (17, (vB true))], [], (vB true), [], []⟩, .a, .a, .a, .m (some 23) ⟨[(22, (vI (atoiV s))), (21, (vB true))], [], (vS (digB (atoiV s))), [], []⟩, .a, .a, .a, .a] ⟨StepOK.p rfl rfl rfl (OpOK.eqlE rfl (by kernel_rfl) rfl rfl),
     StepOK.g rfl rfl rfl rfl rfl (by simp) (OpOK.lenS rfl rfl (by kernel_rfl) rfl),
     StepOK.g rfl rfl rfl rfl rfl (by simp) (OpOK.eqlI rfl rfl rfl (decide_eq_true hs3)),
     StepOK.g rfl rfl rfl rfl rfl (by simp) (OpOK.geq rfl rfl rfl (decide_eq_true hs4)),
     StepOK.g rfl rfl rfl rfl rfl (by simp) (OpOK.call rfl (by kernel_rfl) rfl (ans_digits (atoiV s) (by omega) (atoi4 (by assumption) (by omega))) (by kernel_rfl)), trivial⟩ [(2, (vB (decide ((digB (atoiV s)) = s))))] [] (by kernel_rfl) (by kernel_rfl) ?_
    refine AWp.ret ?_
    refine fin_of (.inr rfl) (v := (vB (decide ((digB (atoiV s)) = s)))) (Res.tmp rfl rfl) (h' := []) rfl rfl ?_
    exact ⟨by first | (simp [codeOK, *]; done) | (simp [codeOK, *]; intros; omega), rfl⟩
   ·skip
    refine AWp.s_reg hGn hGk [.a, .m (some 11) ⟨[(10, (.err true))], [], (vB true), [], []⟩, .a, .a, .m (some 14) ⟨[(13, (vS s)), (12, (vB true))], [], (vI ((s.size : Nat) : Int)), [], []⟩, .m (some 15) ⟨[(14, (vI ((s.size : Nat) : Int))), (12, (vB true))], [], (vB true), [], []⟩, .a, .a, .a, .m (some 19) ⟨[(18, (vI (atoiV s))), (17, (vB true))], [], (vB false), [], []⟩, .a, .a, .a, .a, .a, .a, .a, .a] ⟨StepOK.p rfl rfl rfl (OpOK.eqlE rfl (by kernel_rfl) rfl rfl),
     StepOK.g rfl rfl rfl rfl rfl (by simp) (OpOK.lenS rfl rfl (by kernel_rfl) rfl),
     StepOK.g rfl rfl rfl rfl rfl (by simp) (OpOK.eqlI rfl rfl rfl (decide_eq_true hs3)),
     StepOK.g rfl rfl rfl rfl rfl (by simp) (OpOK.geq rfl rfl rfl (decide_eq_false hs4)), trivial⟩ [(2, (vB false))] [] (by kernel_rfl) (by kernel_rfl) ?_
    refine AWp.ret ?_
    refine fin_of (.inr rfl) (v := (vB false)) (Res.tmp rfl rfl) (h' := []) rfl rfl ?_
    exact ⟨by first | (simp [codeOK, *]; done) | (simp [codeOK, *]; intros; omega), rfl⟩
  ·skip
   refine AWp.s_reg hGn hGk [.a, .m (some 11) ⟨[(10, (.err true))], [], (vB true), [], []⟩, .a, .a, .m (some 14) ⟨[(13, (vS s)), (12, (vB true))], [], (vI ((s.size : Nat) : Int)), [], []⟩, .m (some 15) ⟨[(14, (vI ((s.size : Nat) : Int))), (12, (vB true))], [], (vB false), [], []⟩, .a, .a, .a, .a, .a, .a, .a, .a, .a, .a, .a, .a] ⟨StepOK.p rfl rfl rfl (OpOK.eqlE rfl (by kernel_rfl) rfl rfl),
    StepOK.g rfl rfl rfl rfl rfl (by simp) (OpOK.lenS rfl rfl (by kernel_rfl) rfl),
    StepOK.g rfl rfl rfl rfl rfl (by simp) (OpOK.eqlI rfl rfl rfl (decide_eq_false hs3)), trivial⟩ [(2, (vB false))] [] (by kernel_rfl) (by kernel_rfl) ?_
   refine AWp.ret ?_
   refine fin_of (.inr rfl) (v := (vB false)) (Res.tmp rfl rfl) (h' := []) rfl rfl ?_
   exact ⟨by first | (simp [codeOK, *]; done) | (simp [codeOK, *]; intros; omega), rfl⟩

theorem res_pname (z : D.Person) :
    SpecIs Tryz.prog 81 [(.agg [(vS z.Name), (vI z.Zone), (.p (.sl false 2 (z.Quiet.map D.Window.cells))), (vI z.MaxWeek), (vI z.MinRest), (vB z.Consent)])] [] (vS z.Name) [] := by
 refine Spec.intro Tryz.func81 rfl (by kernel_rfl) ?_
 intro Γ hGn hGk
 replace hGn : Γ.n = 5 := hGn
 replace hGk : Γ.names = [] := hGk
 refine AWp.weaken (mk [(0, (.agg [(vS z.Name), (vI z.Zone), (.p (.sl false 2 (z.Quiet.map D.Window.cells))), (vI z.MaxWeek), (vI z.MinRest), (vB z.Consent)]))] []) (Weak.sub' hGk (by kernel_rfl)) ?_
 refine AWp.s_reg hGn hGk (aa 2) (Man.aa _ _) [(1, (.ref 1001 0))] [(1001, (.box [(vS z.Name), (vI z.Zone), (.p (.sl false 2 (z.Quiet.map D.Window.cells))), (vI z.MaxWeek), (vI z.MinRest), (vB z.Consent)]))] (by kernel_rfl) (by kernel_rfl) ?_
 refine AWp.s_reg hGn hGk (aa 3) (Man.aa _ _) [(2, (vS z.Name))] [] (by kernel_rfl) (by kernel_rfl) ?_
 refine AWp.ret ?_
 refine fin_of (.inr rfl) (v := (vS z.Name)) (Res.tmp rfl rfl) (h' := []) rfl rfl ?_
 exact ⟨rfl, rfl⟩

theorem res_pos1 (z : D.Person) (t : ByteArray) :
    SpecIs Tryz.prog 121 [(.agg [(vS z.Name), (vI z.Zone), (.p (.sl false 2 (z.Quiet.map D.Window.cells))), (vI z.MaxWeek), (vI z.MinRest), (vB z.Consent)]), (.ref 1005 0), (.ref 1004 0)] [(1005, (.box [(.p (.v (.func (.func 81) #[] #[])))])), (1004, (.box [(vS t)]))] (vB (decide (z.Name = t))) [(1005, (.box [(.p (.v (.func (.func 81) #[] #[])))])), (1004, (.box [(vS t)]))] := by
 refine Spec.intro Tryz.func121 rfl (by kernel_rfl) ?_
 intro Γ hGn hGk
 replace hGn : Γ.n = 10 := hGn
 replace hGk : Γ.names = [1005, 1004] := hGk
 let a'1 : AV := (.p (.sl false 2 (z.Quiet.map D.Window.cells)))
 let a'2 : AO := (.box [(.p (.v (.func (.func 81) #[] #[])))])
 refine AWp.weaken (mk [(0, (.agg [(vS z.Name), (vI z.Zone), a'1, (vI z.MaxWeek), (vI z.MinRest), (vB z.Consent)])), (1, (.ref 1005 0)), (2, (.ref 1004 0))] [(1005, a'2), (1004, (.box [(vS t)]))]) (Weak.sub' hGk (by kernel_rfl)) ?_
 refine AWp.s_reg hGn hGk (aa 2) (Man.aa _ _) [(1, (.ref 1005 0)), (2, (.ref 1004 0)), (3, (.ref 1003 0))] [(1005, a'2), (1004, (.box [(vS t)])), (1003, (.box [(vS z.Name), (vI z.Zone), a'1, (vI z.MaxWeek), (vI z.MinRest), (vB z.Consent)]))] (by kernel_rfl) (by kernel_rfl) ?_
 refine AWp.s_dreg hGn hGk (by kernel_rfl) [.a, .a, .m (some 7) ⟨[(5, (.p (.v (.func (.func 81) #[] #[])))), (6, (.agg [(vS z.Name), (vI z.Zone), a'1, (vI z.MaxWeek), (vI z.MinRest), (vB z.Consent)]))], [], (vS z.Name), [], []⟩, .a, .a, .a] ⟨StepOK.p rfl rfl rfl (OpOK.callFv rfl rfl (by kernel_rfl) rfl (res_pname z) (by kernel_rfl)), trivial⟩ [(4, (vB (decide (z.Name = t))))] [(1005, a'2), (1004, (.box [(vS t)]))] (by kernel_rfl) (by kernel_rfl) (by kernel_rfl) ?_
 refine AWp.ret ?_
 refine fin_of (.inr rfl) (v := (vB (decide (z.Name = t)))) (Res.tmp rfl rfl) (h' := [(1005, (.box [(.p (.v (.func (.func 81) #[] #[])))])), (1004, (.box [(vS t)]))]) rfl rfl ?_
 exact ⟨rfl, rfl⟩

theorem res_pidx (ps : List D.Person) (t : ByteArray) (hps : ps.length ≤ 1000000) :
    SpecIs Tryz.prog 120 [(.p (.sl false 6 (ps.map D.Person.cells))), (.clo (.func 121) [] [(.ref 1005 0), (.ref 1004 0)])] [(1005, (.box [(.p (.v (.func (.func 81) #[] #[])))])), (1004, (.box [(vS t)]))] (vI (pidx ps t)) [(1005, (.box [(.p (.v (.func (.func 81) #[] #[])))])), (1004, (.box [(vS t)]))] := by
 refine Spec.intro Tryz.func120 rfl (by kernel_rfl) ?_
 intro Γ hGn hGk
 replace hGn : Γ.n = 19 := hGn
 replace hGk : Γ.names = [1005, 1004] := hGk
 let a'1 : AV := (.p (.sl false 6 (ps.map D.Person.cells)))
 let a'2 : AV := (.clo (.func 121) [] [(.ref 1005 0), (.ref 1004 0)])
 let a'3 : AO := (.box [(.p (.v (.func (.func 81) #[] #[])))])
 refine AWp.weaken (mk [(0, a'1), (1, a'2)] [(1005, a'3), (1004, (.box [(vS t)]))]) (Weak.sub' hGk (by kernel_rfl)) ?_
 refine AWp.s_reg hGn hGk (aa 1) (Man.aa _ _) [(0, a'1), (1, a'2)] [(1005, a'3), (1004, (.box [(vS t)]))] (by kernel_rfl) (by kernel_rfl) ?_
 refine AWp.seq ?_
 refine AWp.s_reg hGn hGk [.a, .m (some 7) ⟨[(6, a'1)], [], (vI ((ps.length : Nat) : Int)), [], []⟩, .a] ⟨StepOK.p rfl rfl rfl (OpOK.lenP (e := 75) rfl rfl (by kernel_rfl) rfl (by rw [List.length_map])), trivial⟩ [(0, a'1), (1, a'2), (7, (vI ((ps.length : Nat) : Int))), (8, (vI 0))] [(1005, a'3), (1004, (.box [(vS t)]))] (by kernel_rfl) (by kernel_rfl) ?_
 refine AWp.block ?_
 refine AWp.loop (fun m s => ∃ i, s = (mk [(0, (.p (.sl false 6 (ps.map D.Person.cells)))), (1, (.clo (.func 121) [] [(.ref 1005 0), (.ref 1004 0)])), (7, (vI ((ps.length : Nat) : Int))), (8, (vI ((i : Nat) : Int)))] [(1005, (.box [(.p (.v (.func (.func 81) #[] #[])))])), (1004, (.box [(vS t)]))]) ∧ (i ≤ ps.length) ∧ (∀ j, j < i → (nth ps j).Name ≠ t) ∧ m = (ps.length - i))
  ⟨_, 0, rfl, (by omega), (by intro j hj; omega), rfl⟩ ?_
 rintro mm1 s ⟨i, rfl, hi, hw, hmm1⟩
 refine AWp.s_reg hGn hGk (aa 1) (Man.aa _ _) [(0, a'1), (1, a'2), (7, (vI ((ps.length : Nat) : Int))), (8, (vI ((i : Nat) : Int))), (9, (vB (decide (((i : Nat) : Int) < ((ps.length : Nat) : Int)))))] [(1005, a'3), (1004, (.box [(vS t)]))] (by kernel_rfl) (by kernel_rfl) ?_
 refine AWp.seq ?_
 refine AWp.cond (decide (((i : Nat) : Int) < ((ps.length : Nat) : Int))) rfl (fun hc2 => ?_) (fun hc2 => ?_)
 ·skip
  replace hc2 := of_decide_eq_true hc2
  refine AWp.skip ?_
  refine nextQ_normal ?_
  refine AWp.seq ?_
  refine AWp.block ?_
  refine AWp.s_reg hGn hGk (aa 2) (Man.aa _ _) [(0, a'1), (1, a'2), (5, (vI ((i : Nat) : Int))), (7, (vI ((ps.length : Nat) : Int))), (8, (vI ((i : Nat) : Int)))] [(1005, a'3), (1004, (.box [(vS t)]))] (by kernel_rfl) (by kernel_rfl) ?_
  refine AWp.s_reg hGn hGk [.a, .a, .a, .m (some 14) ⟨[(12, a'1), (13, (vI ((i : Nat) : Int)))], [], (.eptr [(pS ((nth ps i).Name)), (pI ((nth ps i).Zone)), (.sl false 2 (((nth ps i).Quiet).map D.Window.cells)), (pI ((nth ps i).MaxWeek)), (pI ((nth ps i).MinRest)), (pB ((nth ps i).Consent))]), [], []⟩, .a, .m (some 16) ⟨[(11, a'2), (15, (.agg [(vS ((nth ps i).Name)), (vI ((nth ps i).Zone)), (.p (.sl false 2 (((nth ps i).Quiet).map D.Window.cells))), (vI ((nth ps i).MaxWeek)), (vI ((nth ps i).MinRest)), (vB ((nth ps i).Consent))]))], [(1005, a'3), (1004, (.box [(vS t)]))], (vB (decide ((nth ps i).Name = t))), [(1005, a'3), (1004, (.box [(vS t)]))], []⟩] ⟨StepOK.p rfl rfl rfl (OpOK.indexP (e := 75) rfl (by kernel_rfl) (by kernel_rfl) rfl rfl rfl (map_nth (by omega))),
   StepOK.p rfl rfl rfl (OpOK.callClo rfl rfl (by kernel_rfl) rfl (res_pos1 (nth ps i) t) (by kernel_rfl)), trivial⟩ [(0, a'1), (1, a'2), (5, (vI ((i : Nat) : Int))), (7, (vI ((ps.length : Nat) : Int))), (8, (vI ((i : Nat) : Int))), (16, (vB (decide ((nth ps i).Name = t))))] [(1005, a'3), (1004, (.box [(vS t)]))] (by kernel_rfl) (by kernel_rfl) ?_
  refine AWp.cond (decide ((nth ps i).Name = t)) rfl (fun hc3 => ?_) (fun hc3 => ?_)
  ·skip
   replace hc3 := of_decide_eq_true hc3
   refine AWp.s_reg hGn hGk (aa 2) (Man.aa _ _) [(4, (vI ((i : Nat) : Int)))] [(1005, a'3), (1004, (.box [(vS t)]))] (by kernel_rfl) (by kernel_rfl) ?_
   refine AWp.ret ?_
   refine blockQ_ret ?_
   refine nextQ_ret ?_
   refine nextQ_ret ?_
   refine blockQ_ret ?_
   refine nextQ_ret ?_
   refine fin_of (.inr rfl) (v := (vI ((i : Nat) : Int))) (Res.tmp rfl rfl) (h' := [(1005, (.box [(.p (.v (.func (.func 81) #[] #[])))])), (1004, (.box [(vS t)]))]) rfl rfl ?_
   exact ⟨by rw [pidx_hit (by omega) hw (by assumption)], rfl⟩
  ·skip
   replace hc3 := of_decide_eq_false hc3
   refine AWp.skip ?_
   refine blockQ_normal ?_
   refine nextQ_normal ?_
   refine AWp.reg' hGn hGk [.m (some 18) ⟨[(8, (vI ((i : Nat) : Int)))], [], (vI ((i + 1 : Nat) : Int)), [], []⟩, .a] ⟨StepOK.p rfl rfl rfl (OpOK.add rfl rfl rfl (by rw [IntWalk.i64_in _ ⟨by omega, by omega⟩]; omega)), trivial⟩ [(0, a'1), (1, a'2), (7, (vI ((ps.length : Nat) : Int))), (8, (vI ((i + 1 : Nat) : Int)))] [(1005, a'3), (1004, (.box [(vS t)]))] (by kernel_rfl) (by kernel_rfl) ?_
   refine nextQ_normal ⟨_, ?_, (i + 1), rfl, (by omega), (fun j hj => by rcases Nat.lt_or_ge j i with h | h; exact hw j h; rw [show j = i from by omega]; assumption), rfl⟩
   · omega
 ·skip
  replace hc2 := of_decide_eq_false hc2
  refine AWp.weaken (mk [] [(1005, a'3), (1004, (.box [(vS t)]))]) (Weak.sub' hGk (by kernel_rfl)) ?_
  refine AWp.exit ?_
  refine nextQ_exit ?_
  refine nextQ_exit ?_
  refine blockQ_exit ?_
  refine nextQ_normal ?_
  refine AWp.s_reg hGn hGk (aa 1) (Man.aa _ _) [(4, (vI (-1)))] [(1005, a'3), (1004, (.box [(vS t)]))] (by kernel_rfl) (by kernel_rfl) ?_
  refine AWp.ret ?_
  refine fin_of (.inr rfl) (v := (vI (-1))) (Res.tmp rfl rfl) (h' := [(1005, (.box [(.p (.v (.func (.func 81) #[] #[])))])), (1004, (.box [(vS t)]))]) rfl rfl ?_
  exact ⟨by rw [pidx_none (by omega) hw], rfl⟩

theorem res_pos (ps : List D.Person) (t : ByteArray) (hps : ps.length ≤ 1000000) :
    SpecIs Tryz.prog 80 [(.p (.sl false 6 (ps.map D.Person.cells))), (vS t), (.p (.v (.func (.func 81) #[] #[])))] [] (.tup [(vI ((person ps t).1)), (vB ((person ps t).2))]) [] := by
 refine Spec.intro Tryz.func80 rfl (by kernel_rfl) ?_
 intro Γ hGn hGk
 replace hGn : Γ.n = 16 := hGn
 replace hGk : Γ.names = [] := hGk
 let a'1 : AV := (.p (.sl false 6 (ps.map D.Person.cells)))
 refine AWp.weaken (mk [(0, a'1), (1, (vS t)), (2, (.p (.v (.func (.func 81) #[] #[]))))] []) (Weak.sub' hGk (by kernel_rfl)) ?_
 let a'2 : AO := (.box [(.p (.v (.func (.func 81) #[] #[])))])
 refine AWp.s_reg hGn hGk (aa 4) (Man.aa _ _) [(0, a'1), (4, (.ref 1004 0)), (5, (.ref 1005 0))] [(1004, (.box [(vS t)])), (1005, a'2)] (by kernel_rfl) (by kernel_rfl) ?_
 refine AWp.s_reg hGn hGk [.a, .a, .m (some 11) ⟨[(9, a'1), (10, (.clo (.func 121) [] [(.ref 1005 0), (.ref 1004 0)]))], [(1005, a'2), (1004, (.box [(vS t)]))], (vI (pidx ps t)), [(1005, a'2), (1004, (.box [(vS t)]))], []⟩, .a] ⟨StepOK.p rfl rfl rfl (OpOK.call rfl (by kernel_rfl) rfl (res_pidx ps t hps) (by kernel_rfl)), trivial⟩ [(8, (vI (pidx ps t)))] [] (by kernel_rfl) (by kernel_rfl) ?_
 refine AWp.s_reg hGn hGk [.a, .m (some 13) ⟨[(12, (vI (pidx ps t)))], [], (vI ((person ps t).1)), [], []⟩, .a, .a, .a, .a] ⟨StepOK.p rfl rfl rfl (OpOK.maxI rfl rfl rfl (person_max ps t)), trivial⟩ [(6, (vI ((person ps t).1))), (7, (vB (decide ((0 : Int) ≤ (pidx ps t)))))] [] (by kernel_rfl) (by kernel_rfl) ?_
 refine AWp.ret ?_
 refine fin_of (.inr rfl) (v := (.tup [(vI ((person ps t).1)), (vB (decide ((0 : Int) ≤ (pidx ps t))))])) (Res.many (by kernel_rfl) (Res1s.cons (Res1.tmp rfl) (Res1s.cons (Res1.tmp rfl) Res1s.nil))) (h' := []) rfl rfl ?_
 exact ⟨by rw [person_is], rfl⟩

theorem res_Person (c : D.Config) (t : ByteArray) (hps : c.People.length ≤ 1000000) :
    SpecIs Tryz.prog 45 [(.agg [(.p (.sl false 3 (c.Zones.map D.Zone.cells))), (.p (.sl false 6 (c.People.map D.Person.cells))), (.p (.sl false 3 (c.Calendars.map D.Calendar.cells))), (.p (.sl false 3 (c.Schedules.map D.Schedule.cells)))]), (vS t)] [] (.tup [(vI ((person c.People t).1)), (vB ((person c.People t).2))]) [] := by
 refine Spec.intro Tryz.func45 rfl (by kernel_rfl) ?_
 intro Γ hGn hGk
 replace hGn : Γ.n = 12 := hGn
 replace hGk : Γ.names = [] := hGk
 let a'1 : AV := (.p (.sl false 6 (c.People.map D.Person.cells)))
 refine AWp.weaken (mk [(0, (.agg [(.p (.sl false 3 (c.Zones.map D.Zone.cells))), a'1, (.p (.sl false 3 (c.Calendars.map D.Calendar.cells))), (.p (.sl false 3 (c.Schedules.map D.Schedule.cells)))])), (1, (vS t))] []) (Weak.sub' hGk (by kernel_rfl)) ?_
 refine AWp.s_reg hGn hGk (aa 3) (Man.aa _ _) [(1, (vS t)), (2, (.ref 1002 0))] [(1002, (.box [(.p (.sl false 3 (c.Zones.map D.Zone.cells))), a'1, (.p (.sl false 3 (c.Calendars.map D.Calendar.cells))), (.p (.sl false 3 (c.Schedules.map D.Schedule.cells)))]))] (by kernel_rfl) (by kernel_rfl) ?_
 refine AWp.s_reg hGn hGk [.a, .a, .a, .m (some 9) ⟨[(7, a'1), (8, (vS t))], [], (.tup [(vI ((person c.People t).1)), (vB ((person c.People t).2))]), [], []⟩, .a, .a, .a, .a] ⟨StepOK.p rfl rfl rfl (OpOK.call rfl (by kernel_rfl) rfl (res_pos c.People t (by omega)) (by kernel_rfl)), trivial⟩ [(4, (vI ((person c.People t).1))), (5, (vB ((person c.People t).2)))] [] (by kernel_rfl) (by kernel_rfl) ?_
 refine AWp.ret ?_
 refine fin_of (.inr rfl) (v := (.tup [(vI ((person c.People t).1)), (vB ((person c.People t).2))])) (Res.many (by kernel_rfl) (Res1s.cons (Res1.tmp rfl) (Res1s.cons (Res1.tmp rfl) Res1s.nil))) (h' := []) rfl rfl ?_
 exact ⟨rfl, rfl⟩

theorem ans_Parse (c : D.Config) (p : Int) (t : ByteArray) (h : CfgOK c) (ht : t.size ≤ 1000000) :
    SpecIs Tryz.prog 16 [(.agg [(.p (.sl false 3 (c.Zones.map D.Zone.cells))), (.p (.sl false 6 (c.People.map D.Person.cells))), (.p (.sl false 3 (c.Calendars.map D.Calendar.cells))), (.p (.sl false 3 (c.Schedules.map D.Schedule.cells)))]), (vI p), (vS t)] [] (.tup [(.agg [(vI (((parseA c p t).1).ID)), (vI (((parseA c p t).1).Page)), (vI (((parseA c p t).1).Person)), (vI (((parseA c p t).1).Kind)), (vI (((parseA c p t).1).Arg)), (vI (((parseA c p t).1).At))]), (vI ((parseA c p t).2))]) [] := by
 refine Spec.intro Tryz.func16 rfl (by kernel_rfl) ?_
 intro Γ hGn hGk
 replace hGn : Γ.n = 117 := hGn
 replace hGk : Γ.names = [] := hGk
 have hpl := h.plen
 have hsl := splitS_len t
 have hz0 := splitS_size t 0
 have hz1 := splitS_size t 1
 have hz2 := splitS_size t 2
 have hz3 := splitS_size t 3
 have hkv := kindV_le (nth (splitS t) 0)
 let a'1 : AV := (.p (.sl false 3 (c.Zones.map D.Zone.cells)))
 let a'2 : AV := (.p (.sl false 6 (c.People.map D.Person.cells)))
 let a'3 : AV := (.p (.sl false 3 (c.Calendars.map D.Calendar.cells)))
 let a'4 : AV := (.p (.sl false 3 (c.Schedules.map D.Schedule.cells)))
 let a'5 : AV := (.agg [a'1, a'2, a'3, a'4])
 refine AWp.weaken (mk [(0, a'5), (1, (vI p)), (2, (vS t))] []) (Weak.sub' hGk (by kernel_rfl)) ?_
 let a'6 : AO := (.box [a'1, a'2, a'3, a'4])
 let a'7 : AO := (.box [(vI 0), (vI 0), (vI 0), (vI 0), (vI 0), (vI 0)])
 refine AWp.s_reg hGn hGk (aa 3) (Man.aa _ _) [(1, (vI p)), (2, (vS t)), (3, (.ref 1003 0)), (6, (.ref 1006 0))] [(1003, a'6), (1006, a'7)] (by kernel_rfl) (by kernel_rfl) ?_
 refine AWp.seq ?_
 refine AWp.s_reg hGn hGk [.a, .m (some 13) ⟨[(12, a'5)], [], (vI 0), [], []⟩, .a] ⟨StepOK.p rfl rfl rfl (OpOK.call rfl (by kernel_rfl) rfl (res_Check c h) (by kernel_rfl)), trivial⟩ [(1, (vI p)), (2, (vS t)), (3, (.ref 1003 0)), (6, (.ref 1006 0)), (14, (vB false))] [(1003, a'6), (1006, a'7)] (by kernel_rfl) (by kernel_rfl) ?_
 refine AWp.cond_false rfl ?_
 refine AWp.skip ?_
 refine nextQ_normal ?_
 refine AWp.seq ?_
 refine AWp.s_reg hGn hGk [.a, .a, .a, .m (some 19) ⟨[(18, a'2)], [], (vI ((c.People.length : Nat) : Int)), [], []⟩, .m (some 20) ⟨[(19, (vI ((c.People.length : Nat) : Int)))], [], (vI (((c.People.length : Nat) : Int) - 1)), [], []⟩, .m (some 21) ⟨[(16, (vI p)), (20, (vI (((c.People.length : Nat) : Int) - 1)))], [], (vB (inB p (0 : Int) (((c.People.length : Nat) : Int) - 1))), [], []⟩, .a] ⟨StepOK.p rfl rfl rfl (OpOK.lenP (e := 75) rfl rfl (by kernel_rfl) rfl (by rw [List.length_map])),
  StepOK.p rfl rfl rfl (OpOK.sub rfl rfl rfl (IntWalk.i64_in _ ⟨by omega, by omega⟩)),
  StepOK.p rfl rfl rfl (OpOK.call rfl (by kernel_rfl) rfl (ans_in p (0 : Int) (((c.People.length : Nat) : Int) - 1)) (by kernel_rfl)), trivial⟩ [(1, (vI p)), (2, (vS t)), (3, (.ref 1003 0)), (6, (.ref 1006 0)), (22, (vB (!(inB p (0 : Int) (((c.People.length : Nat) : Int) - 1)))))] [(1003, a'6), (1006, a'7)] (by kernel_rfl) (by kernel_rfl) ?_
 refine AWp.cond (!(inB p (0 : Int) (((c.People.length : Nat) : Int) - 1))) rfl (fun hc1 => ?_) (fun hc1 => ?_)
 ·skip
  replace hc1 : inB p (0 : Int) (((c.People.length : Nat) : Int) - 1) = false := by simpa using hc1
  have ha2 := inB_false hc1
  refine AWp.s_reg hGn hGk (aa 3) (Man.aa _ _) [(6, (.ref 1006 0)), (7, (vI 3))] [(1006, a'7)] (by kernel_rfl) (by kernel_rfl) ?_
  refine AWp.ret ?_
  refine nextQ_ret ?_
  refine fin_of (.inr rfl) (v := (.tup [(.agg [(vI 0), (vI 0), (vI 0), (vI 0), (vI 0), (vI 0)]), (vI 3)])) (Res.many (by kernel_rfl) (Res1s.cons (Res1.agg rfl rfl (by kernel_rfl) (by kernel_rfl)) (Res1s.cons (Res1.tmp rfl) Res1s.nil))) (h' := []) rfl rfl ?_
  exact ⟨by rw [parseA_out (by assumption)] <;> rfl, rfl⟩
 ·skip
  replace hc1 : inB p (0 : Int) (((c.People.length : Nat) : Int) - 1) = true := by simpa using hc1
  have ha3 := inB_spec hc1
  refine AWp.skip ?_
  refine nextQ_normal ?_
  let a'8 : AV := (.p (.sl true 1 ((splitS t).map D.cStr)))
  refine AWp.s_reg hGn hGk [.a, .m (some 25) ⟨[(24, (vS t))], [], a'8, [], []⟩, .a] ⟨StepOK.p rfl rfl rfl (OpOK.call rfl (by kernel_rfl) rfl (kit_Split t (by omega)) (by kernel_rfl)), trivial⟩ [(1, (vI p)), (3, (.ref 1003 0)), (6, (.ref 1006 0)), (8, a'8)] [(1003, a'6), (1006, a'7)] (by kernel_rfl) (by kernel_rfl) ?_
  let a'9 : AO := (.box [(vI 0), (vI 0), (vI p), (vI (kindV (nth (splitS t) 0))), (vI 0), (vI 0)])
  refine AWp.s_dreg hGn hGk (by kernel_rfl) [.a, .m (some 27) ⟨[], [], (.oref true 5001), [(5001, (.obj (smap verbsL)))], [5001]⟩, .a, .m (some 29) ⟨[(28, a'8)], [], (.eptr [(pS (nth (splitS t) 0))]), [], []⟩, .a, .m (some 31) ⟨[(27, (.oref true 5001)), (30, (vS (nth (splitS t) 0)))], [(5001, (.obj (smap verbsL)))], (vI (kindV (nth (splitS t) 0))), [], []⟩, .a, .a, .a] ⟨StepOK.p rfl rfl rfl (OpOK.call rfl (by kernel_rfl) rfl ans_verbs (by kernel_rfl)),
   StepOK.p rfl rfl rfl (OpOK.indexP (e := 9) rfl (by kernel_rfl) (by kernel_rfl) rfl rfl rfl (map_nth (show 0 < List.length (splitS t) by omega))),
   StepOK.p rfl rfl rfl (OpOK.lookup (K := 9) (E := 3) (z := (.int .i64 0)) rfl (by kernel_rfl) (by kernel_rfl) (by kernel_rfl) rfl rfl (kindV_get _) rfl), trivial⟩ [(1, (vI p)), (3, (.ref 1003 0)), (6, (.ref 1006 0)), (8, a'8), (9, (.ref 1009 0))] [(1003, a'6), (1006, a'7), (1009, a'9)] (by kernel_rfl) (by kernel_rfl) (by kernel_rfl) ?_
  refine AWp.s_reg hGn hGk (aa 1) (Man.aa _ _) [(1, (vI p)), (3, (.ref 1003 0)), (6, (.ref 1006 0)), (8, a'8), (9, (.ref 1009 0)), (10, (vI 3))] [(1003, a'6), (1006, a'7), (1009, a'9)] (by kernel_rfl) (by kernel_rfl) ?_
  refine AWp.seq ?_
  by_cases hs4 : (kindV (nth (splitS t) 0)) = (3 : Int)
  ·skip
   refine AWp.s_reg hGn hGk [.a, .a, .m (some 35) ⟨[(34, (vI (kindV (nth (splitS t) 0))))], [], (vB true), [], []⟩, .a, .a, .a, .a, .a] ⟨StepOK.p rfl rfl rfl (OpOK.eqlI rfl rfl rfl (decide_eq_true hs4)), trivial⟩ [(1, (vI p)), (3, (.ref 1003 0)), (6, (.ref 1006 0)), (8, a'8), (9, (.ref 1009 0)), (10, (vI 3)), (40, (vB true))] [(1003, a'6), (1006, a'7), (1009, a'9)] (by kernel_rfl) (by kernel_rfl) ?_
   refine AWp.cond_true rfl ?_
   refine AWp.reg' hGn hGk (aa 1) (Man.aa _ _) [(1, (vI p)), (3, (.ref 1003 0)), (6, (.ref 1006 0)), (8, a'8), (9, (.ref 1009 0)), (10, (vI 4))] [(1003, a'6), (1006, a'7), (1009, a'9)] (by kernel_rfl) (by kernel_rfl) ?_
   refine nextQ_normal ?_
   refine AWp.seq ?_
   by_cases hs5 : (kindV (nth (splitS t) 0)) = (0 : Int)
   ·skip
    refine AWp.s_reg hGn hGk [.a, .a, .m (some 43) ⟨[(42, (vI (kindV (nth (splitS t) 0))))], [], (vB true), [], []⟩, .a, .a, .a, .a, .a, .a, .a, .a, .a, .a, .a, .a, .a, .a, .a, .a, .a, .a, .a, .a, .a] ⟨StepOK.p rfl rfl rfl (OpOK.eqlI rfl rfl rfl (decide_eq_true hs5)), trivial⟩ [(1, (vI p)), (3, (.ref 1003 0)), (6, (.ref 1006 0)), (8, a'8), (9, (.ref 1009 0)), (64, (vB true))] [(1003, a'6), (1006, a'7), (1009, a'9)] (by kernel_rfl) (by kernel_rfl) ?_
    refine AWp.cond_true rfl ?_
    refine AWp.s_reg hGn hGk (aa 3) (Man.aa _ _) [(6, (.ref 1006 0)), (7, (vI 2))] [(1006, a'7)] (by kernel_rfl) (by kernel_rfl) ?_
    refine AWp.ret ?_
    refine nextQ_ret ?_
    refine fin_of (.inr rfl) (v := (.tup [(.agg [(vI 0), (vI 0), (vI 0), (vI 0), (vI 0), (vI 0)]), (vI 2)])) (Res.many (by kernel_rfl) (Res1s.cons (Res1.agg rfl rfl (by kernel_rfl) (by kernel_rfl)) (Res1s.cons (Res1.tmp rfl) Res1s.nil))) (h' := []) rfl rfl ?_
    exact ⟨by rw [parseA_in (by assumption), parseW_bad (by first | (exfalso; omega) | (simp [badW, nWords, *]; done) | (simp [badW, nWords, *]; omega))] <;> rfl, rfl⟩
   ·skip
    by_cases hs6 : (((splitS t).length : Nat) : Int) ≠ (4 : Int)
    ·skip
     refine AWp.s_reg hGn hGk [.a, .a, .m (some 43) ⟨[(42, (vI (kindV (nth (splitS t) 0))))], [], (vB false), [], []⟩, .a, .a, .m (some 46) ⟨[(45, a'8), (44, (vB false))], [], (vI (((splitS t).length : Nat) : Int)), [], []⟩, .a, .m (some 48) ⟨[(46, (vI (((splitS t).length : Nat) : Int))), (47, (vI 4)), (44, (vB false))], [], (vB true), [], []⟩, .a, .a, .a, .a, .a, .a, .a, .a, .a, .a, .a, .a, .a, .a, .a, .a] ⟨StepOK.p rfl rfl rfl (OpOK.eqlI rfl rfl rfl (decide_eq_false hs5)),
      StepOK.g rfl rfl rfl rfl rfl (by simp) (OpOK.lenP (e := 9) rfl rfl (by kernel_rfl) rfl (by rw [List.length_map])),
      StepOK.g rfl rfl rfl rfl rfl (by simp) (OpOK.neqI rfl rfl rfl (decide_eq_true hs6)), trivial⟩ [(1, (vI p)), (3, (.ref 1003 0)), (6, (.ref 1006 0)), (8, a'8), (9, (.ref 1009 0)), (64, (vB true))] [(1003, a'6), (1006, a'7), (1009, a'9)] (by kernel_rfl) (by kernel_rfl) ?_
     refine AWp.cond_true rfl ?_
     refine AWp.s_reg hGn hGk (aa 3) (Man.aa _ _) [(6, (.ref 1006 0)), (7, (vI 2))] [(1006, a'7)] (by kernel_rfl) (by kernel_rfl) ?_
     refine AWp.ret ?_
     refine nextQ_ret ?_
     refine fin_of (.inr rfl) (v := (.tup [(.agg [(vI 0), (vI 0), (vI 0), (vI 0), (vI 0), (vI 0)]), (vI 2)])) (Res.many (by kernel_rfl) (Res1s.cons (Res1.agg rfl rfl (by kernel_rfl) (by kernel_rfl)) (Res1s.cons (Res1.tmp rfl) Res1s.nil))) (h' := []) rfl rfl ?_
     exact ⟨by rw [parseA_in (by assumption), parseW_bad (by first | (exfalso; omega) | (simp [badW, nWords, *]; done) | (simp [badW, nWords, *]; omega))] <;> rfl, rfl⟩
    ·skip
     by_cases hs7 : (nth (splitS t) 3) = (ByteArray.mk #[])
     ·skip
      refine AWp.s_reg hGn hGk [.a, .a, .m (some 43) ⟨[(42, (vI (kindV (nth (splitS t) 0))))], [], (vB false), [], []⟩, .a, .a, .m (some 46) ⟨[(45, a'8), (44, (vB false))], [], (vI (((splitS t).length : Nat) : Int)), [], []⟩, .a, .m (some 48) ⟨[(46, (vI (((splitS t).length : Nat) : Int))), (47, (vI 4)), (44, (vB false))], [], (vB false), [], []⟩, .a, .a, .a, .a, .m (some 53) ⟨[(52, (vI 4)), (50, (vB false))], [], (vI 3), [], []⟩, .m (some 54) ⟨[(51, a'8), (53, (vI 3)), (50, (vB false))], [], (.eptr [(pS (nth (splitS t) 3))]), [], []⟩, .a, .m (some 56) ⟨[(55, (vS (nth (splitS t) 3))), (50, (vB false))], [], (vB true), [], []⟩, .a, .a, .a, .a, .a, .a, .a, .a] ⟨StepOK.p rfl rfl rfl (OpOK.eqlI rfl rfl rfl (decide_eq_false hs5)),
       StepOK.g rfl rfl rfl rfl rfl (by simp) (OpOK.lenP (e := 9) rfl rfl (by kernel_rfl) rfl (by rw [List.length_map])),
       StepOK.g rfl rfl rfl rfl rfl (by simp) (OpOK.neqI rfl rfl rfl (decide_eq_false hs6)),
       StepOK.g rfl rfl rfl rfl rfl (by simp) (OpOK.sub rfl rfl rfl (by decide)),
       StepOK.g rfl rfl rfl rfl rfl (by simp) (OpOK.indexP (e := 9) rfl (by kernel_rfl) (by kernel_rfl) rfl rfl rfl (map_nth (show 3 < List.length (splitS t) by omega))),
       StepOK.g rfl rfl rfl rfl rfl (by simp) (OpOK.eqlS rfl rfl rfl (decide_eq_true hs7)), trivial⟩ [(1, (vI p)), (3, (.ref 1003 0)), (6, (.ref 1006 0)), (8, a'8), (9, (.ref 1009 0)), (64, (vB true))] [(1003, a'6), (1006, a'7), (1009, a'9)] (by kernel_rfl) (by kernel_rfl) ?_
      refine AWp.cond_true rfl ?_
      refine AWp.s_reg hGn hGk (aa 3) (Man.aa _ _) [(6, (.ref 1006 0)), (7, (vI 2))] [(1006, a'7)] (by kernel_rfl) (by kernel_rfl) ?_
      refine AWp.ret ?_
      refine nextQ_ret ?_
      refine fin_of (.inr rfl) (v := (.tup [(.agg [(vI 0), (vI 0), (vI 0), (vI 0), (vI 0), (vI 0)]), (vI 2)])) (Res.many (by kernel_rfl) (Res1s.cons (Res1.agg rfl rfl (by kernel_rfl) (by kernel_rfl)) (Res1s.cons (Res1.tmp rfl) Res1s.nil))) (h' := []) rfl rfl ?_
      exact ⟨by rw [parseA_in (by assumption), parseW_bad (by first | (exfalso; omega) | (simp [badW, nWords, *]; done) | (simp [badW, nWords, *]; omega))] <;> rfl, rfl⟩
     ·skip
      refine AWp.s_reg hGn hGk [.a, .a, .m (some 43) ⟨[(42, (vI (kindV (nth (splitS t) 0))))], [], (vB false), [], []⟩, .a, .a, .m (some 46) ⟨[(45, a'8), (44, (vB false))], [], (vI (((splitS t).length : Nat) : Int)), [], []⟩, .a, .m (some 48) ⟨[(46, (vI (((splitS t).length : Nat) : Int))), (47, (vI 4)), (44, (vB false))], [], (vB false), [], []⟩, .a, .a, .a, .a, .m (some 53) ⟨[(52, (vI 4)), (50, (vB false))], [], (vI 3), [], []⟩, .m (some 54) ⟨[(51, a'8), (53, (vI 3)), (50, (vB false))], [], (.eptr [(pS (nth (splitS t) 3))]), [], []⟩, .a, .m (some 56) ⟨[(55, (vS (nth (splitS t) 3))), (50, (vB false))], [], (vB false), [], []⟩, .a, .a, .a, .m (some 60) ⟨[(59, a'8), (58, (vB false))], [], (.eptr [(pS (nth (splitS t) 2))]), [], []⟩, .a, .m (some 62) ⟨[(61, (vS (nth (splitS t) 2))), (58, (vB false))], [], (vB (codeOK (nth (splitS t) 2))), [], []⟩, .a, .a] ⟨StepOK.p rfl rfl rfl (OpOK.eqlI rfl rfl rfl (decide_eq_false hs5)),
       StepOK.g rfl rfl rfl rfl rfl (by simp) (OpOK.lenP (e := 9) rfl rfl (by kernel_rfl) rfl (by rw [List.length_map])),
       StepOK.g rfl rfl rfl rfl rfl (by simp) (OpOK.neqI rfl rfl rfl (decide_eq_false hs6)),
       StepOK.g rfl rfl rfl rfl rfl (by simp) (OpOK.sub rfl rfl rfl (by decide)),
       StepOK.g rfl rfl rfl rfl rfl (by simp) (OpOK.indexP (e := 9) rfl (by kernel_rfl) (by kernel_rfl) rfl rfl rfl (map_nth (show 3 < List.length (splitS t) by omega))),
       StepOK.g rfl rfl rfl rfl rfl (by simp) (OpOK.eqlS rfl rfl rfl (decide_eq_false hs7)),
       StepOK.g rfl rfl rfl rfl rfl (by simp) (OpOK.indexP (e := 9) rfl (by kernel_rfl) (by kernel_rfl) rfl rfl rfl (map_nth (show 2 < List.length (splitS t) by omega))),
       StepOK.g rfl rfl rfl rfl rfl (by simp) (OpOK.call rfl (by kernel_rfl) rfl (ans_code (nth (splitS t) 2) (by omega)) (by kernel_rfl)), trivial⟩ [(1, (vI p)), (3, (.ref 1003 0)), (6, (.ref 1006 0)), (8, a'8), (9, (.ref 1009 0)), (64, (vB (!(codeOK (nth (splitS t) 2)))))] [(1003, a'6), (1006, a'7), (1009, a'9)] (by kernel_rfl) (by kernel_rfl) ?_
      refine AWp.cond (!(codeOK (nth (splitS t) 2))) rfl (fun hc8 => ?_) (fun hc8 => ?_)
      ·skip
       replace hc8 : codeOK (nth (splitS t) 2) = false := by simpa using hc8
       refine AWp.s_reg hGn hGk (aa 3) (Man.aa _ _) [(6, (.ref 1006 0)), (7, (vI 2))] [(1006, a'7)] (by kernel_rfl) (by kernel_rfl) ?_
       refine AWp.ret ?_
       refine nextQ_ret ?_
       refine fin_of (.inr rfl) (v := (.tup [(.agg [(vI 0), (vI 0), (vI 0), (vI 0), (vI 0), (vI 0)]), (vI 2)])) (Res.many (by kernel_rfl) (Res1s.cons (Res1.agg rfl rfl (by kernel_rfl) (by kernel_rfl)) (Res1s.cons (Res1.tmp rfl) Res1s.nil))) (h' := []) rfl rfl ?_
       exact ⟨by rw [parseA_in (by assumption), parseW_bad (by first | (exfalso; omega) | (simp [badW, nWords, *]; done) | (simp [badW, nWords, *]; omega))] <;> rfl, rfl⟩
      ·skip
       replace hc8 : codeOK (nth (splitS t) 2) = true := by simpa using hc8
       refine AWp.skip ?_
       refine nextQ_normal ?_
       refine AWp.s_reg hGn hGk (aa 1) (Man.aa _ _) [(1, (vI p)), (3, (.ref 1003 0)), (6, (.ref 1006 0)), (8, a'8), (9, (.ref 1009 0))] [(1003, a'6), (1006, a'7), (1009, a'9)] (by kernel_rfl) (by kernel_rfl) ?_
       refine AWp.seq ?_
       let a'10 : AV := (.tup [(vI (atoiV (nth (splitS t) 1))), (vB (numOK (nth (splitS t) 1) (999999 : Int)))])
       let a'11 : AO := (.box [(vI 0), (vI (atoiV (nth (splitS t) 1))), (vI p), (vI (kindV (nth (splitS t) 0))), (vI 0), (vI 0)])
       refine AWp.s_reg hGn hGk [.a, .m (some 68) ⟨[(67, a'8)], [], (.eptr [(pS (nth (splitS t) 1))]), [], []⟩, .a, .m (some 70) ⟨[(69, (vS (nth (splitS t) 1)))], [], a'10, [], []⟩, .a, .a, .a, .a, .a, .a] ⟨StepOK.p rfl rfl rfl (OpOK.indexP (e := 9) rfl (by kernel_rfl) (by kernel_rfl) rfl rfl rfl (map_nth (show 1 < List.length (splitS t) by omega))),
        StepOK.p rfl rfl rfl (OpOK.call rfl (by kernel_rfl) rfl (ans_number (nth (splitS t) 1) (999999 : Int) (by omega)) (by kernel_rfl)), trivial⟩ [(1, (vI p)), (3, (.ref 1003 0)), (6, (.ref 1006 0)), (8, a'8), (9, (.ref 1009 0)), (11, (vB (numOK (nth (splitS t) 1) (999999 : Int))))] [(1003, a'6), (1006, a'7), (1009, a'11)] (by kernel_rfl) (by kernel_rfl) ?_
       refine AWp.s_reg hGn hGk (aa 2) (Man.aa _ _) [(1, (vI p)), (3, (.ref 1003 0)), (6, (.ref 1006 0)), (8, a'8), (9, (.ref 1009 0)), (75, (vB (!(numOK (nth (splitS t) 1) (999999 : Int)))))] [(1003, a'6), (1006, a'7), (1009, a'11)] (by kernel_rfl) (by kernel_rfl) ?_
       refine AWp.cond (!(numOK (nth (splitS t) 1) (999999 : Int))) rfl (fun hc9 => ?_) (fun hc9 => ?_)
       ·skip
        replace hc9 : numOK (nth (splitS t) 1) (999999 : Int) = false := by simpa using hc9
        refine AWp.s_reg hGn hGk (aa 3) (Man.aa _ _) [(6, (.ref 1006 0)), (7, (vI 2))] [(1006, a'7)] (by kernel_rfl) (by kernel_rfl) ?_
        refine AWp.ret ?_
        refine nextQ_ret ?_
        refine fin_of (.inr rfl) (v := (.tup [(.agg [(vI 0), (vI 0), (vI 0), (vI 0), (vI 0), (vI 0)]), (vI 2)])) (Res.many (by kernel_rfl) (Res1s.cons (Res1.agg rfl rfl (by kernel_rfl) (by kernel_rfl)) (Res1s.cons (Res1.tmp rfl) Res1s.nil))) (h' := []) rfl rfl ?_
        exact ⟨by rw [parseA_in (by assumption), parseW_bad (by first | (exfalso; omega) | (simp [badW, nWords, *]; done) | (simp [badW, nWords, *]; omega))] <;> rfl, rfl⟩
       ·skip
        replace hc9 : numOK (nth (splitS t) 1) (999999 : Int) = true := by simpa using hc9
        refine AWp.skip ?_
        refine nextQ_normal ?_
        refine AWp.seq ?_
        refine AWp.s_reg hGn hGk [.a, .a, .m (some 79) ⟨[(78, (vI (kindV (nth (splitS t) 0))))], [], (vB true), [], []⟩] ⟨StepOK.p rfl rfl rfl (OpOK.eqlI rfl rfl rfl (decide_eq_true hs4)), trivial⟩ [(1, (vI p)), (3, (.ref 1003 0)), (6, (.ref 1006 0)), (8, a'8), (9, (.ref 1009 0)), (79, (vB true))] [(1003, a'6), (1006, a'7), (1009, a'11)] (by kernel_rfl) (by kernel_rfl) ?_
        refine AWp.cond_true rfl ?_
        let a'12 : AO := (.box [(vI 0), (vI (atoiV (nth (splitS t) 1))), (vI p), (vI (kindV (nth (splitS t) 0))), (vI (atoiV (nth (splitS t) 3))), (vI 0)])
        refine AWp.s_reg hGn hGk [.a, .m (some 82) ⟨[(81, a'8)], [], (.eptr [(pS (nth (splitS t) 3))]), [], []⟩, .a, .m (some 84) ⟨[(83, (vS (nth (splitS t) 3)))], [], (.tup [(vI (atoiV (nth (splitS t) 3))), (vB (numOK (nth (splitS t) 3) (86400 : Int)))]), [], []⟩, .a, .a, .a, .a, .a, .a] ⟨StepOK.p rfl rfl rfl (OpOK.indexP (e := 9) rfl (by kernel_rfl) (by kernel_rfl) rfl rfl rfl (map_nth (show 3 < List.length (splitS t) by omega))),
         StepOK.p rfl rfl rfl (OpOK.call rfl (by kernel_rfl) rfl (ans_number (nth (splitS t) 3) (86400 : Int) (by omega)) (by kernel_rfl)), trivial⟩ [(1, (vI p)), (3, (.ref 1003 0)), (6, (.ref 1006 0)), (8, a'8), (9, (.ref 1009 0)), (11, (vB (numOK (nth (splitS t) 3) (86400 : Int))))] [(1003, a'6), (1006, a'7), (1009, a'12)] (by kernel_rfl) (by kernel_rfl) ?_
        refine AWp.s_reg hGn hGk (aa 2) (Man.aa _ _) [(1, (vI p)), (3, (.ref 1003 0)), (6, (.ref 1006 0)), (8, a'8), (9, (.ref 1009 0)), (89, (vB (!(numOK (nth (splitS t) 3) (86400 : Int)))))] [(1003, a'6), (1006, a'7), (1009, a'12)] (by kernel_rfl) (by kernel_rfl) ?_
        refine AWp.cond (!(numOK (nth (splitS t) 3) (86400 : Int))) rfl (fun hc10 => ?_) (fun hc10 => ?_)
        ·skip
         replace hc10 : numOK (nth (splitS t) 3) (86400 : Int) = false := by simpa using hc10
         refine AWp.s_reg hGn hGk (aa 3) (Man.aa _ _) [(6, (.ref 1006 0)), (7, (vI 2))] [(1006, a'7)] (by kernel_rfl) (by kernel_rfl) ?_
         refine AWp.ret ?_
         refine nextQ_ret ?_
         refine fin_of (.inr rfl) (v := (.tup [(.agg [(vI 0), (vI 0), (vI 0), (vI 0), (vI 0), (vI 0)]), (vI 2)])) (Res.many (by kernel_rfl) (Res1s.cons (Res1.agg rfl rfl (by kernel_rfl) (by kernel_rfl)) (Res1s.cons (Res1.tmp rfl) Res1s.nil))) (h' := []) rfl rfl ?_
         exact ⟨by rw [parseA_in (by assumption), parseW_bad (by first | (exfalso; omega) | (simp [badW, nWords, *]; done) | (simp [badW, nWords, *]; omega))] <;> rfl, rfl⟩
        ·skip
         replace hc10 : numOK (nth (splitS t) 3) (86400 : Int) = true := by simpa using hc10
         refine AWp.skip ?_
         refine nextQ_normal ?_
         refine AWp.seq ?_
         have hf11 := ansCode_le (atoiV (nth (splitS t) 1)) p
         refine AWp.s_dreg hGn hGk (by kernel_rfl) [.a, .m (some 92) ⟨[(91, a'8)], [], (.eptr [(pS (nth (splitS t) 2))]), [], []⟩, .a, .a, .a, .a, .m (some 97) ⟨[(95, (vI (atoiV (nth (splitS t) 1)))), (96, (vI p))], [], (vI (ansCode (atoiV (nth (splitS t) 1)) p)), [], []⟩, .m (some 98) ⟨[(97, (vI (ansCode (atoiV (nth (splitS t) 1)) p)))], [], (vS (digB (ansCode (atoiV (nth (splitS t) 1)) p))), [], []⟩, .a] ⟨StepOK.p rfl rfl rfl (OpOK.indexP (e := 9) rfl (by kernel_rfl) (by kernel_rfl) rfl rfl rfl (map_nth (show 2 < List.length (splitS t) by omega))),
          StepOK.p rfl rfl rfl (OpOK.call rfl (by kernel_rfl) rfl (ans_Code (atoiV (nth (splitS t) 1)) p) (by kernel_rfl)),
          StepOK.p rfl rfl rfl (OpOK.call rfl (by kernel_rfl) rfl (ans_digits (ansCode (atoiV (nth (splitS t) 1)) p) (by omega) (by omega)) (by kernel_rfl)), trivial⟩ [(3, (.ref 1003 0)), (6, (.ref 1006 0)), (8, a'8), (9, (.ref 1009 0)), (99, (vB (decide ((nth (splitS t) 2) ≠ (digB (ansCode (atoiV (nth (splitS t) 1)) p))))))] [(1003, a'6), (1006, a'7), (1009, a'12)] (by kernel_rfl) (by kernel_rfl) (by kernel_rfl) ?_
         refine AWp.cond (decide ((nth (splitS t) 2) ≠ (digB (ansCode (atoiV (nth (splitS t) 1)) p)))) rfl (fun hc12 => ?_) (fun hc12 => ?_)
         ·skip
          replace hc12 := of_decide_eq_true hc12
          refine AWp.s_reg hGn hGk (aa 3) (Man.aa _ _) [(6, (.ref 1006 0)), (7, (vI 20))] [(1006, a'7)] (by kernel_rfl) (by kernel_rfl) ?_
          refine AWp.ret ?_
          refine nextQ_ret ?_
          refine fin_of (.inr rfl) (v := (.tup [(.agg [(vI 0), (vI 0), (vI 0), (vI 0), (vI 0), (vI 0)]), (vI 20)])) (Res.many (by kernel_rfl) (Res1s.cons (Res1.agg rfl rfl (by kernel_rfl) (by kernel_rfl)) (Res1s.cons (Res1.tmp rfl) Res1s.nil))) (h' := []) rfl rfl ?_
          exact ⟨by rw [parseA_in (by assumption), parseW_code (by first | (exfalso; omega) | (simp [badW, nWords, *]; done) | (simp [badW, nWords, *]; omega)) (by assumption)] <;> rfl, rfl⟩
         ·skip
          replace hc12 := of_decide_eq_false hc12
          refine AWp.skip ?_
          refine nextQ_normal ?_
          refine AWp.seq ?_
          refine AWp.s_reg hGn hGk (aa 3) (Man.aa _ _) [(3, (.ref 1003 0)), (6, (.ref 1006 0)), (8, a'8), (9, (.ref 1009 0)), (103, (vB (decide ((kindV (nth (splitS t) 0)) = (4 : Int)))))] [(1003, a'6), (1006, a'7), (1009, a'12)] (by kernel_rfl) (by kernel_rfl) ?_
          refine AWp.cond (decide ((kindV (nth (splitS t) 0)) = (4 : Int))) rfl (fun hc13 => ?_) (fun hc13 => ?_)
          ·skip
           replace hc13 := of_decide_eq_true hc13
           let a'13 : AO := (.box [(vI 0), (vI (atoiV (nth (splitS t) 1))), (vI p), (vI (kindV (nth (splitS t) 0))), (vI ((person c.People (nth (splitS t) 3)).1)), (vI 0)])
           refine AWp.s_dreg hGn hGk (by kernel_rfl) [.a, .a, .m (some 107) ⟨[(106, a'8)], [], (.eptr [(pS (nth (splitS t) 3))]), [], []⟩, .a, .m (some 109) ⟨[(105, a'5), (108, (vS (nth (splitS t) 3)))], [], (.tup [(vI ((person c.People (nth (splitS t) 3)).1)), (vB ((person c.People (nth (splitS t) 3)).2))]), [], []⟩, .a, .a, .a, .a, .a, .a] ⟨StepOK.p rfl rfl rfl (OpOK.indexP (e := 9) rfl (by kernel_rfl) (by kernel_rfl) rfl rfl rfl (map_nth (show 3 < List.length (splitS t) by omega))),
            StepOK.p rfl rfl rfl (OpOK.call rfl (by kernel_rfl) rfl (res_Person c (nth (splitS t) 3) (by omega)) (by kernel_rfl)), trivial⟩ [(6, (.ref 1006 0)), (9, (.ref 1009 0)), (11, (vB ((person c.People (nth (splitS t) 3)).2)))] [(1006, a'7), (1009, a'13)] (by kernel_rfl) (by kernel_rfl) (by kernel_rfl) ?_
           refine AWp.s_reg hGn hGk (aa 2) (Man.aa _ _) [(6, (.ref 1006 0)), (9, (.ref 1009 0)), (114, (vB (!((person c.People (nth (splitS t) 3)).2))))] [(1006, a'7), (1009, a'13)] (by kernel_rfl) (by kernel_rfl) ?_
           refine AWp.cond (!((person c.People (nth (splitS t) 3)).2)) rfl (fun hc14 => ?_) (fun hc14 => ?_)
           ·skip
            replace hc14 : (person c.People (nth (splitS t) 3)).2 = false := by simpa using hc14
            refine AWp.s_reg hGn hGk (aa 3) (Man.aa _ _) [(6, (.ref 1006 0)), (7, (vI 3))] [(1006, a'7)] (by kernel_rfl) (by kernel_rfl) ?_
            refine AWp.ret ?_
            refine nextQ_ret ?_
            refine fin_of (.inr rfl) (v := (.tup [(.agg [(vI 0), (vI 0), (vI 0), (vI 0), (vI 0), (vI 0)]), (vI 3)])) (Res.many (by kernel_rfl) (Res1s.cons (Res1.agg rfl rfl (by kernel_rfl) (by kernel_rfl)) (Res1s.cons (Res1.tmp rfl) Res1s.nil))) (h' := []) rfl rfl ?_
            exact ⟨by rw [parseA_in (by assumption), parseW_person (by assumption) (by first | (exfalso; omega) | (simp [badW, nWords, *]; done) | (simp [badW, nWords, *]; omega)) (by assumption) (by assumption)] <;> rfl, rfl⟩
           ·skip
            replace hc14 : (person c.People (nth (splitS t) 3)).2 = true := by simpa using hc14
            refine AWp.skip ?_
            refine nextQ_normal ?_
            refine AWp.s_reg hGn hGk (aa 3) (Man.aa _ _) [(6, (.ref 1006 0)), (7, (vI 0))] [(1006, a'13)] (by kernel_rfl) (by kernel_rfl) ?_
            refine AWp.ret ?_
            refine fin_of (.inr rfl) (v := (.tup [(.agg [(vI 0), (vI (atoiV (nth (splitS t) 1))), (vI p), (vI (kindV (nth (splitS t) 0))), (vI ((person c.People (nth (splitS t) 3)).1)), (vI 0)]), (vI 0)])) (Res.many (by kernel_rfl) (Res1s.cons (Res1.agg rfl rfl (by kernel_rfl) (by kernel_rfl)) (Res1s.cons (Res1.tmp rfl) Res1s.nil))) (h' := []) rfl rfl ?_
            exact ⟨by rw [parseA_in (by assumption), parseW_hand (by assumption) (by first | (exfalso; omega) | (simp [badW, nWords, *]; done) | (simp [badW, nWords, *]; omega)) (by assumption) (by assumption)] <;> rfl, rfl⟩
          ·skip
           replace hc13 := of_decide_eq_false hc13
           refine AWp.skip ?_
           refine nextQ_normal ?_
           refine AWp.s_reg hGn hGk (aa 3) (Man.aa _ _) [(6, (.ref 1006 0)), (7, (vI 0))] [(1006, a'12)] (by kernel_rfl) (by kernel_rfl) ?_
           refine AWp.ret ?_
           refine fin_of (.inr rfl) (v := (.tup [(.agg [(vI 0), (vI (atoiV (nth (splitS t) 1))), (vI p), (vI (kindV (nth (splitS t) 0))), (vI (atoiV (nth (splitS t) 3))), (vI 0)]), (vI 0)])) (Res.many (by kernel_rfl) (Res1s.cons (Res1.agg rfl rfl (by kernel_rfl) (by kernel_rfl)) (Res1s.cons (Res1.tmp rfl) Res1s.nil))) (h' := []) rfl rfl ?_
           exact ⟨by rw [parseA_in (by assumption), parseW_snooze (by assumption) (by first | (exfalso; omega) | (simp [badW, nWords, *]; done) | (simp [badW, nWords, *]; omega)) (by assumption)] <;> rfl, rfl⟩
  ·skip
   refine AWp.s_reg hGn hGk [.a, .a, .m (some 35) ⟨[(34, (vI (kindV (nth (splitS t) 0))))], [], (vB false), [], []⟩, .a, .a, .a, .a, .a] ⟨StepOK.p rfl rfl rfl (OpOK.eqlI rfl rfl rfl (decide_eq_false hs4)), trivial⟩ [(1, (vI p)), (3, (.ref 1003 0)), (6, (.ref 1006 0)), (8, a'8), (9, (.ref 1009 0)), (10, (vI 3)), (40, (vB (decide ((kindV (nth (splitS t) 0)) = (4 : Int)))))] [(1003, a'6), (1006, a'7), (1009, a'9)] (by kernel_rfl) (by kernel_rfl) ?_
   refine AWp.cond (decide ((kindV (nth (splitS t) 0)) = (4 : Int))) rfl (fun hc15 => ?_) (fun hc15 => ?_)
   ·skip
    replace hc15 := of_decide_eq_true hc15
    refine AWp.reg' hGn hGk (aa 1) (Man.aa _ _) [(1, (vI p)), (3, (.ref 1003 0)), (6, (.ref 1006 0)), (8, a'8), (9, (.ref 1009 0)), (10, (vI 4))] [(1003, a'6), (1006, a'7), (1009, a'9)] (by kernel_rfl) (by kernel_rfl) ?_
    refine nextQ_normal ?_
    refine AWp.seq ?_
    by_cases hs16 : (kindV (nth (splitS t) 0)) = (0 : Int)
    ·skip
     refine AWp.s_reg hGn hGk [.a, .a, .m (some 43) ⟨[(42, (vI (kindV (nth (splitS t) 0))))], [], (vB true), [], []⟩, .a, .a, .a, .a, .a, .a, .a, .a, .a, .a, .a, .a, .a, .a, .a, .a, .a, .a, .a, .a, .a] ⟨StepOK.p rfl rfl rfl (OpOK.eqlI rfl rfl rfl (decide_eq_true hs16)), trivial⟩ [(1, (vI p)), (3, (.ref 1003 0)), (6, (.ref 1006 0)), (8, a'8), (9, (.ref 1009 0)), (64, (vB true))] [(1003, a'6), (1006, a'7), (1009, a'9)] (by kernel_rfl) (by kernel_rfl) ?_
     refine AWp.cond_true rfl ?_
     refine AWp.s_reg hGn hGk (aa 3) (Man.aa _ _) [(6, (.ref 1006 0)), (7, (vI 2))] [(1006, a'7)] (by kernel_rfl) (by kernel_rfl) ?_
     refine AWp.ret ?_
     refine nextQ_ret ?_
     refine fin_of (.inr rfl) (v := (.tup [(.agg [(vI 0), (vI 0), (vI 0), (vI 0), (vI 0), (vI 0)]), (vI 2)])) (Res.many (by kernel_rfl) (Res1s.cons (Res1.agg rfl rfl (by kernel_rfl) (by kernel_rfl)) (Res1s.cons (Res1.tmp rfl) Res1s.nil))) (h' := []) rfl rfl ?_
     exact ⟨by rw [parseA_in (by assumption), parseW_bad (by first | (exfalso; omega) | (simp [badW, nWords, *]; done) | (simp [badW, nWords, *]; omega))] <;> rfl, rfl⟩
    ·skip
     by_cases hs17 : (((splitS t).length : Nat) : Int) ≠ (4 : Int)
     ·skip
      refine AWp.s_reg hGn hGk [.a, .a, .m (some 43) ⟨[(42, (vI (kindV (nth (splitS t) 0))))], [], (vB false), [], []⟩, .a, .a, .m (some 46) ⟨[(45, a'8), (44, (vB false))], [], (vI (((splitS t).length : Nat) : Int)), [], []⟩, .a, .m (some 48) ⟨[(46, (vI (((splitS t).length : Nat) : Int))), (47, (vI 4)), (44, (vB false))], [], (vB true), [], []⟩, .a, .a, .a, .a, .a, .a, .a, .a, .a, .a, .a, .a, .a, .a, .a, .a] ⟨StepOK.p rfl rfl rfl (OpOK.eqlI rfl rfl rfl (decide_eq_false hs16)),
       StepOK.g rfl rfl rfl rfl rfl (by simp) (OpOK.lenP (e := 9) rfl rfl (by kernel_rfl) rfl (by rw [List.length_map])),
       StepOK.g rfl rfl rfl rfl rfl (by simp) (OpOK.neqI rfl rfl rfl (decide_eq_true hs17)), trivial⟩ [(1, (vI p)), (3, (.ref 1003 0)), (6, (.ref 1006 0)), (8, a'8), (9, (.ref 1009 0)), (64, (vB true))] [(1003, a'6), (1006, a'7), (1009, a'9)] (by kernel_rfl) (by kernel_rfl) ?_
      refine AWp.cond_true rfl ?_
      refine AWp.s_reg hGn hGk (aa 3) (Man.aa _ _) [(6, (.ref 1006 0)), (7, (vI 2))] [(1006, a'7)] (by kernel_rfl) (by kernel_rfl) ?_
      refine AWp.ret ?_
      refine nextQ_ret ?_
      refine fin_of (.inr rfl) (v := (.tup [(.agg [(vI 0), (vI 0), (vI 0), (vI 0), (vI 0), (vI 0)]), (vI 2)])) (Res.many (by kernel_rfl) (Res1s.cons (Res1.agg rfl rfl (by kernel_rfl) (by kernel_rfl)) (Res1s.cons (Res1.tmp rfl) Res1s.nil))) (h' := []) rfl rfl ?_
      exact ⟨by rw [parseA_in (by assumption), parseW_bad (by first | (exfalso; omega) | (simp [badW, nWords, *]; done) | (simp [badW, nWords, *]; omega))] <;> rfl, rfl⟩
     ·skip
      by_cases hs18 : (nth (splitS t) 3) = (ByteArray.mk #[])
      ·skip
       refine AWp.s_reg hGn hGk [.a, .a, .m (some 43) ⟨[(42, (vI (kindV (nth (splitS t) 0))))], [], (vB false), [], []⟩, .a, .a, .m (some 46) ⟨[(45, a'8), (44, (vB false))], [], (vI (((splitS t).length : Nat) : Int)), [], []⟩, .a, .m (some 48) ⟨[(46, (vI (((splitS t).length : Nat) : Int))), (47, (vI 4)), (44, (vB false))], [], (vB false), [], []⟩, .a, .a, .a, .a, .m (some 53) ⟨[(52, (vI 4)), (50, (vB false))], [], (vI 3), [], []⟩, .m (some 54) ⟨[(51, a'8), (53, (vI 3)), (50, (vB false))], [], (.eptr [(pS (nth (splitS t) 3))]), [], []⟩, .a, .m (some 56) ⟨[(55, (vS (nth (splitS t) 3))), (50, (vB false))], [], (vB true), [], []⟩, .a, .a, .a, .a, .a, .a, .a, .a] ⟨StepOK.p rfl rfl rfl (OpOK.eqlI rfl rfl rfl (decide_eq_false hs16)),
        StepOK.g rfl rfl rfl rfl rfl (by simp) (OpOK.lenP (e := 9) rfl rfl (by kernel_rfl) rfl (by rw [List.length_map])),
        StepOK.g rfl rfl rfl rfl rfl (by simp) (OpOK.neqI rfl rfl rfl (decide_eq_false hs17)),
        StepOK.g rfl rfl rfl rfl rfl (by simp) (OpOK.sub rfl rfl rfl (by decide)),
        StepOK.g rfl rfl rfl rfl rfl (by simp) (OpOK.indexP (e := 9) rfl (by kernel_rfl) (by kernel_rfl) rfl rfl rfl (map_nth (show 3 < List.length (splitS t) by omega))),
        StepOK.g rfl rfl rfl rfl rfl (by simp) (OpOK.eqlS rfl rfl rfl (decide_eq_true hs18)), trivial⟩ [(1, (vI p)), (3, (.ref 1003 0)), (6, (.ref 1006 0)), (8, a'8), (9, (.ref 1009 0)), (64, (vB true))] [(1003, a'6), (1006, a'7), (1009, a'9)] (by kernel_rfl) (by kernel_rfl) ?_
       refine AWp.cond_true rfl ?_
       refine AWp.s_reg hGn hGk (aa 3) (Man.aa _ _) [(6, (.ref 1006 0)), (7, (vI 2))] [(1006, a'7)] (by kernel_rfl) (by kernel_rfl) ?_
       refine AWp.ret ?_
       refine nextQ_ret ?_
       refine fin_of (.inr rfl) (v := (.tup [(.agg [(vI 0), (vI 0), (vI 0), (vI 0), (vI 0), (vI 0)]), (vI 2)])) (Res.many (by kernel_rfl) (Res1s.cons (Res1.agg rfl rfl (by kernel_rfl) (by kernel_rfl)) (Res1s.cons (Res1.tmp rfl) Res1s.nil))) (h' := []) rfl rfl ?_
       exact ⟨by rw [parseA_in (by assumption), parseW_bad (by first | (exfalso; omega) | (simp [badW, nWords, *]; done) | (simp [badW, nWords, *]; omega))] <;> rfl, rfl⟩
      ·skip
       refine AWp.s_reg hGn hGk [.a, .a, .m (some 43) ⟨[(42, (vI (kindV (nth (splitS t) 0))))], [], (vB false), [], []⟩, .a, .a, .m (some 46) ⟨[(45, a'8), (44, (vB false))], [], (vI (((splitS t).length : Nat) : Int)), [], []⟩, .a, .m (some 48) ⟨[(46, (vI (((splitS t).length : Nat) : Int))), (47, (vI 4)), (44, (vB false))], [], (vB false), [], []⟩, .a, .a, .a, .a, .m (some 53) ⟨[(52, (vI 4)), (50, (vB false))], [], (vI 3), [], []⟩, .m (some 54) ⟨[(51, a'8), (53, (vI 3)), (50, (vB false))], [], (.eptr [(pS (nth (splitS t) 3))]), [], []⟩, .a, .m (some 56) ⟨[(55, (vS (nth (splitS t) 3))), (50, (vB false))], [], (vB false), [], []⟩, .a, .a, .a, .m (some 60) ⟨[(59, a'8), (58, (vB false))], [], (.eptr [(pS (nth (splitS t) 2))]), [], []⟩, .a, .m (some 62) ⟨[(61, (vS (nth (splitS t) 2))), (58, (vB false))], [], (vB (codeOK (nth (splitS t) 2))), [], []⟩, .a, .a] ⟨StepOK.p rfl rfl rfl (OpOK.eqlI rfl rfl rfl (decide_eq_false hs16)),
        StepOK.g rfl rfl rfl rfl rfl (by simp) (OpOK.lenP (e := 9) rfl rfl (by kernel_rfl) rfl (by rw [List.length_map])),
        StepOK.g rfl rfl rfl rfl rfl (by simp) (OpOK.neqI rfl rfl rfl (decide_eq_false hs17)),
        StepOK.g rfl rfl rfl rfl rfl (by simp) (OpOK.sub rfl rfl rfl (by decide)),
        StepOK.g rfl rfl rfl rfl rfl (by simp) (OpOK.indexP (e := 9) rfl (by kernel_rfl) (by kernel_rfl) rfl rfl rfl (map_nth (show 3 < List.length (splitS t) by omega))),
        StepOK.g rfl rfl rfl rfl rfl (by simp) (OpOK.eqlS rfl rfl rfl (decide_eq_false hs18)),
        StepOK.g rfl rfl rfl rfl rfl (by simp) (OpOK.indexP (e := 9) rfl (by kernel_rfl) (by kernel_rfl) rfl rfl rfl (map_nth (show 2 < List.length (splitS t) by omega))),
        StepOK.g rfl rfl rfl rfl rfl (by simp) (OpOK.call rfl (by kernel_rfl) rfl (ans_code (nth (splitS t) 2) (by omega)) (by kernel_rfl)), trivial⟩ [(1, (vI p)), (3, (.ref 1003 0)), (6, (.ref 1006 0)), (8, a'8), (9, (.ref 1009 0)), (64, (vB (!(codeOK (nth (splitS t) 2)))))] [(1003, a'6), (1006, a'7), (1009, a'9)] (by kernel_rfl) (by kernel_rfl) ?_
       refine AWp.cond (!(codeOK (nth (splitS t) 2))) rfl (fun hc19 => ?_) (fun hc19 => ?_)
       ·skip
        replace hc19 : codeOK (nth (splitS t) 2) = false := by simpa using hc19
        refine AWp.s_reg hGn hGk (aa 3) (Man.aa _ _) [(6, (.ref 1006 0)), (7, (vI 2))] [(1006, a'7)] (by kernel_rfl) (by kernel_rfl) ?_
        refine AWp.ret ?_
        refine nextQ_ret ?_
        refine fin_of (.inr rfl) (v := (.tup [(.agg [(vI 0), (vI 0), (vI 0), (vI 0), (vI 0), (vI 0)]), (vI 2)])) (Res.many (by kernel_rfl) (Res1s.cons (Res1.agg rfl rfl (by kernel_rfl) (by kernel_rfl)) (Res1s.cons (Res1.tmp rfl) Res1s.nil))) (h' := []) rfl rfl ?_
        exact ⟨by rw [parseA_in (by assumption), parseW_bad (by first | (exfalso; omega) | (simp [badW, nWords, *]; done) | (simp [badW, nWords, *]; omega))] <;> rfl, rfl⟩
       ·skip
        replace hc19 : codeOK (nth (splitS t) 2) = true := by simpa using hc19
        refine AWp.skip ?_
        refine nextQ_normal ?_
        refine AWp.s_reg hGn hGk (aa 1) (Man.aa _ _) [(1, (vI p)), (3, (.ref 1003 0)), (6, (.ref 1006 0)), (8, a'8), (9, (.ref 1009 0))] [(1003, a'6), (1006, a'7), (1009, a'9)] (by kernel_rfl) (by kernel_rfl) ?_
        refine AWp.seq ?_
        let a'14 : AV := (.tup [(vI (atoiV (nth (splitS t) 1))), (vB (numOK (nth (splitS t) 1) (999999 : Int)))])
        let a'15 : AO := (.box [(vI 0), (vI (atoiV (nth (splitS t) 1))), (vI p), (vI (kindV (nth (splitS t) 0))), (vI 0), (vI 0)])
        refine AWp.s_reg hGn hGk [.a, .m (some 68) ⟨[(67, a'8)], [], (.eptr [(pS (nth (splitS t) 1))]), [], []⟩, .a, .m (some 70) ⟨[(69, (vS (nth (splitS t) 1)))], [], a'14, [], []⟩, .a, .a, .a, .a, .a, .a] ⟨StepOK.p rfl rfl rfl (OpOK.indexP (e := 9) rfl (by kernel_rfl) (by kernel_rfl) rfl rfl rfl (map_nth (show 1 < List.length (splitS t) by omega))),
         StepOK.p rfl rfl rfl (OpOK.call rfl (by kernel_rfl) rfl (ans_number (nth (splitS t) 1) (999999 : Int) (by omega)) (by kernel_rfl)), trivial⟩ [(1, (vI p)), (3, (.ref 1003 0)), (6, (.ref 1006 0)), (8, a'8), (9, (.ref 1009 0)), (11, (vB (numOK (nth (splitS t) 1) (999999 : Int))))] [(1003, a'6), (1006, a'7), (1009, a'15)] (by kernel_rfl) (by kernel_rfl) ?_
        refine AWp.s_reg hGn hGk (aa 2) (Man.aa _ _) [(1, (vI p)), (3, (.ref 1003 0)), (6, (.ref 1006 0)), (8, a'8), (9, (.ref 1009 0)), (75, (vB (!(numOK (nth (splitS t) 1) (999999 : Int)))))] [(1003, a'6), (1006, a'7), (1009, a'15)] (by kernel_rfl) (by kernel_rfl) ?_
        refine AWp.cond (!(numOK (nth (splitS t) 1) (999999 : Int))) rfl (fun hc20 => ?_) (fun hc20 => ?_)
        ·skip
         replace hc20 : numOK (nth (splitS t) 1) (999999 : Int) = false := by simpa using hc20
         refine AWp.s_reg hGn hGk (aa 3) (Man.aa _ _) [(6, (.ref 1006 0)), (7, (vI 2))] [(1006, a'7)] (by kernel_rfl) (by kernel_rfl) ?_
         refine AWp.ret ?_
         refine nextQ_ret ?_
         refine fin_of (.inr rfl) (v := (.tup [(.agg [(vI 0), (vI 0), (vI 0), (vI 0), (vI 0), (vI 0)]), (vI 2)])) (Res.many (by kernel_rfl) (Res1s.cons (Res1.agg rfl rfl (by kernel_rfl) (by kernel_rfl)) (Res1s.cons (Res1.tmp rfl) Res1s.nil))) (h' := []) rfl rfl ?_
         exact ⟨by rw [parseA_in (by assumption), parseW_bad (by first | (exfalso; omega) | (simp [badW, nWords, *]; done) | (simp [badW, nWords, *]; omega))] <;> rfl, rfl⟩
        ·skip
         replace hc20 : numOK (nth (splitS t) 1) (999999 : Int) = true := by simpa using hc20
         refine AWp.skip ?_
         refine nextQ_normal ?_
         refine AWp.seq ?_
         refine AWp.s_reg hGn hGk [.a, .a, .m (some 79) ⟨[(78, (vI (kindV (nth (splitS t) 0))))], [], (vB false), [], []⟩] ⟨StepOK.p rfl rfl rfl (OpOK.eqlI rfl rfl rfl (decide_eq_false hs4)), trivial⟩ [(1, (vI p)), (3, (.ref 1003 0)), (6, (.ref 1006 0)), (8, a'8), (9, (.ref 1009 0)), (79, (vB false))] [(1003, a'6), (1006, a'7), (1009, a'15)] (by kernel_rfl) (by kernel_rfl) ?_
         refine AWp.cond_false rfl ?_
         refine AWp.skip ?_
         refine nextQ_normal ?_
         refine AWp.seq ?_
         have hf21 := ansCode_le (atoiV (nth (splitS t) 1)) p
         refine AWp.s_dreg hGn hGk (by kernel_rfl) [.a, .m (some 92) ⟨[(91, a'8)], [], (.eptr [(pS (nth (splitS t) 2))]), [], []⟩, .a, .a, .a, .a, .m (some 97) ⟨[(95, (vI (atoiV (nth (splitS t) 1)))), (96, (vI p))], [], (vI (ansCode (atoiV (nth (splitS t) 1)) p)), [], []⟩, .m (some 98) ⟨[(97, (vI (ansCode (atoiV (nth (splitS t) 1)) p)))], [], (vS (digB (ansCode (atoiV (nth (splitS t) 1)) p))), [], []⟩, .a] ⟨StepOK.p rfl rfl rfl (OpOK.indexP (e := 9) rfl (by kernel_rfl) (by kernel_rfl) rfl rfl rfl (map_nth (show 2 < List.length (splitS t) by omega))),
          StepOK.p rfl rfl rfl (OpOK.call rfl (by kernel_rfl) rfl (ans_Code (atoiV (nth (splitS t) 1)) p) (by kernel_rfl)),
          StepOK.p rfl rfl rfl (OpOK.call rfl (by kernel_rfl) rfl (ans_digits (ansCode (atoiV (nth (splitS t) 1)) p) (by omega) (by omega)) (by kernel_rfl)), trivial⟩ [(3, (.ref 1003 0)), (6, (.ref 1006 0)), (8, a'8), (9, (.ref 1009 0)), (99, (vB (decide ((nth (splitS t) 2) ≠ (digB (ansCode (atoiV (nth (splitS t) 1)) p))))))] [(1003, a'6), (1006, a'7), (1009, a'15)] (by kernel_rfl) (by kernel_rfl) (by kernel_rfl) ?_
         refine AWp.cond (decide ((nth (splitS t) 2) ≠ (digB (ansCode (atoiV (nth (splitS t) 1)) p)))) rfl (fun hc22 => ?_) (fun hc22 => ?_)
         ·skip
          replace hc22 := of_decide_eq_true hc22
          refine AWp.s_reg hGn hGk (aa 3) (Man.aa _ _) [(6, (.ref 1006 0)), (7, (vI 20))] [(1006, a'7)] (by kernel_rfl) (by kernel_rfl) ?_
          refine AWp.ret ?_
          refine nextQ_ret ?_
          refine fin_of (.inr rfl) (v := (.tup [(.agg [(vI 0), (vI 0), (vI 0), (vI 0), (vI 0), (vI 0)]), (vI 20)])) (Res.many (by kernel_rfl) (Res1s.cons (Res1.agg rfl rfl (by kernel_rfl) (by kernel_rfl)) (Res1s.cons (Res1.tmp rfl) Res1s.nil))) (h' := []) rfl rfl ?_
          exact ⟨by rw [parseA_in (by assumption), parseW_code (by first | (exfalso; omega) | (simp [badW, nWords, *]; done) | (simp [badW, nWords, *]; omega)) (by assumption)] <;> rfl, rfl⟩
         ·skip
          replace hc22 := of_decide_eq_false hc22
          refine AWp.skip ?_
          refine nextQ_normal ?_
          refine AWp.seq ?_
          refine AWp.s_reg hGn hGk [.a, .a, .m (some 103) ⟨[(102, (vI (kindV (nth (splitS t) 0))))], [], (vB true), [], []⟩] ⟨StepOK.p rfl rfl rfl (OpOK.eqlI rfl rfl rfl (decide_eq_true hc15)), trivial⟩ [(3, (.ref 1003 0)), (6, (.ref 1006 0)), (8, a'8), (9, (.ref 1009 0)), (103, (vB true))] [(1003, a'6), (1006, a'7), (1009, a'15)] (by kernel_rfl) (by kernel_rfl) ?_
          refine AWp.cond_true rfl ?_
          let a'16 : AO := (.box [(vI 0), (vI (atoiV (nth (splitS t) 1))), (vI p), (vI (kindV (nth (splitS t) 0))), (vI ((person c.People (nth (splitS t) 3)).1)), (vI 0)])
          refine AWp.s_dreg hGn hGk (by kernel_rfl) [.a, .a, .m (some 107) ⟨[(106, a'8)], [], (.eptr [(pS (nth (splitS t) 3))]), [], []⟩, .a, .m (some 109) ⟨[(105, a'5), (108, (vS (nth (splitS t) 3)))], [], (.tup [(vI ((person c.People (nth (splitS t) 3)).1)), (vB ((person c.People (nth (splitS t) 3)).2))]), [], []⟩, .a, .a, .a, .a, .a, .a] ⟨StepOK.p rfl rfl rfl (OpOK.indexP (e := 9) rfl (by kernel_rfl) (by kernel_rfl) rfl rfl rfl (map_nth (show 3 < List.length (splitS t) by omega))),
           StepOK.p rfl rfl rfl (OpOK.call rfl (by kernel_rfl) rfl (res_Person c (nth (splitS t) 3) (by omega)) (by kernel_rfl)), trivial⟩ [(6, (.ref 1006 0)), (9, (.ref 1009 0)), (11, (vB ((person c.People (nth (splitS t) 3)).2)))] [(1006, a'7), (1009, a'16)] (by kernel_rfl) (by kernel_rfl) (by kernel_rfl) ?_
          refine AWp.s_reg hGn hGk (aa 2) (Man.aa _ _) [(6, (.ref 1006 0)), (9, (.ref 1009 0)), (114, (vB (!((person c.People (nth (splitS t) 3)).2))))] [(1006, a'7), (1009, a'16)] (by kernel_rfl) (by kernel_rfl) ?_
          refine AWp.cond (!((person c.People (nth (splitS t) 3)).2)) rfl (fun hc23 => ?_) (fun hc23 => ?_)
          ·skip
           replace hc23 : (person c.People (nth (splitS t) 3)).2 = false := by simpa using hc23
           refine AWp.s_reg hGn hGk (aa 3) (Man.aa _ _) [(6, (.ref 1006 0)), (7, (vI 3))] [(1006, a'7)] (by kernel_rfl) (by kernel_rfl) ?_
           refine AWp.ret ?_
           refine nextQ_ret ?_
           refine fin_of (.inr rfl) (v := (.tup [(.agg [(vI 0), (vI 0), (vI 0), (vI 0), (vI 0), (vI 0)]), (vI 3)])) (Res.many (by kernel_rfl) (Res1s.cons (Res1.agg rfl rfl (by kernel_rfl) (by kernel_rfl)) (Res1s.cons (Res1.tmp rfl) Res1s.nil))) (h' := []) rfl rfl ?_
           exact ⟨by rw [parseA_in (by assumption), parseW_person (by assumption) (by first | (exfalso; omega) | (simp [badW, nWords, *]; done) | (simp [badW, nWords, *]; omega)) (by assumption) (by assumption)] <;> rfl, rfl⟩
          ·skip
           replace hc23 : (person c.People (nth (splitS t) 3)).2 = true := by simpa using hc23
           refine AWp.skip ?_
           refine nextQ_normal ?_
           refine AWp.s_reg hGn hGk (aa 3) (Man.aa _ _) [(6, (.ref 1006 0)), (7, (vI 0))] [(1006, a'16)] (by kernel_rfl) (by kernel_rfl) ?_
           refine AWp.ret ?_
           refine fin_of (.inr rfl) (v := (.tup [(.agg [(vI 0), (vI (atoiV (nth (splitS t) 1))), (vI p), (vI (kindV (nth (splitS t) 0))), (vI ((person c.People (nth (splitS t) 3)).1)), (vI 0)]), (vI 0)])) (Res.many (by kernel_rfl) (Res1s.cons (Res1.agg rfl rfl (by kernel_rfl) (by kernel_rfl)) (Res1s.cons (Res1.tmp rfl) Res1s.nil))) (h' := []) rfl rfl ?_
           exact ⟨by rw [parseA_in (by assumption), parseW_hand (by assumption) (by first | (exfalso; omega) | (simp [badW, nWords, *]; done) | (simp [badW, nWords, *]; omega)) (by assumption) (by assumption)] <;> rfl, rfl⟩
   ·skip
    replace hc15 := of_decide_eq_false hc15
    refine AWp.skip ?_
    refine nextQ_normal ?_
    refine AWp.seq ?_
    by_cases hs24 : (kindV (nth (splitS t) 0)) = (0 : Int)
    ·skip
     first | refine AWp.cast (show (mk [(1, (vI p)), (3, (.ref 1003 0)), (6, (.ref 1006 0)), (8, (.p (.sl true 1 ((splitS t).map D.cStr)))), (9, (.ref 1009 0)), (10, (vI 3)), (40, (vB (decide ((kindV (nth (splitS t) 0)) = (4 : Int)))))] [(1003, (.box [(.p (.sl false 3 (c.Zones.map D.Zone.cells))), (.p (.sl false 6 (c.People.map D.Person.cells))), (.p (.sl false 3 (c.Calendars.map D.Calendar.cells))), (.p (.sl false 3 (c.Schedules.map D.Schedule.cells)))])), (1006, (.box [(vI 0), (vI 0), (vI 0), (vI 0), (vI 0), (vI 0)])), (1009, (.box [(vI 0), (vI 0), (vI p), (vI (kindV (nth (splitS t) 0))), (vI 0), (vI 0)]))]) = (mk [(1, (vI p)), (3, (.ref 1003 0)), (6, (.ref 1006 0)), (8, (.p (.sl true 1 ((splitS t).map D.cStr)))), (9, (.ref 1009 0)), (10, (vI 3)), (40, (vB false))] [(1003, (.box [(.p (.sl false 3 (c.Zones.map D.Zone.cells))), (.p (.sl false 6 (c.People.map D.Person.cells))), (.p (.sl false 3 (c.Calendars.map D.Calendar.cells))), (.p (.sl false 3 (c.Schedules.map D.Schedule.cells)))])), (1006, (.box [(vI 0), (vI 0), (vI 0), (vI 0), (vI 0), (vI 0)])), (1009, (.box [(vI 0), (vI 0), (vI p), (vI (kindV (nth (splitS t) 0))), (vI 0), (vI 0)]))]) from by rw [(decide_eq_false hc15)]) ?_ | skip
     refine AWp.s_reg hGn hGk [.a, .a, .m (some 43) ⟨[(42, (vI (kindV (nth (splitS t) 0))))], [], (vB true), [], []⟩, .a, .a, .a, .a, .a, .a, .a, .a, .a, .a, .a, .a, .a, .a, .a, .a, .a, .a, .a, .a, .a] ⟨StepOK.p rfl rfl rfl (OpOK.eqlI rfl rfl rfl (decide_eq_true hs24)), trivial⟩ [(1, (vI p)), (3, (.ref 1003 0)), (6, (.ref 1006 0)), (8, a'8), (9, (.ref 1009 0)), (64, (vB true))] [(1003, a'6), (1006, a'7), (1009, a'9)] (by kernel_rfl) (by kernel_rfl) ?_
     refine AWp.cond_true rfl ?_
     refine AWp.s_reg hGn hGk (aa 3) (Man.aa _ _) [(6, (.ref 1006 0)), (7, (vI 2))] [(1006, a'7)] (by kernel_rfl) (by kernel_rfl) ?_
     refine AWp.ret ?_
     refine nextQ_ret ?_
     refine fin_of (.inr rfl) (v := (.tup [(.agg [(vI 0), (vI 0), (vI 0), (vI 0), (vI 0), (vI 0)]), (vI 2)])) (Res.many (by kernel_rfl) (Res1s.cons (Res1.agg rfl rfl (by kernel_rfl) (by kernel_rfl)) (Res1s.cons (Res1.tmp rfl) Res1s.nil))) (h' := []) rfl rfl ?_
     exact ⟨by rw [parseA_in (by assumption), parseW_bad (by first | (exfalso; omega) | (simp [badW, nWords, *]; done) | (simp [badW, nWords, *]; omega))] <;> rfl, rfl⟩
    ·skip
     first | refine AWp.cast (show (mk [(1, (vI p)), (3, (.ref 1003 0)), (6, (.ref 1006 0)), (8, (.p (.sl true 1 ((splitS t).map D.cStr)))), (9, (.ref 1009 0)), (10, (vI 3)), (40, (vB (decide ((kindV (nth (splitS t) 0)) = (4 : Int)))))] [(1003, (.box [(.p (.sl false 3 (c.Zones.map D.Zone.cells))), (.p (.sl false 6 (c.People.map D.Person.cells))), (.p (.sl false 3 (c.Calendars.map D.Calendar.cells))), (.p (.sl false 3 (c.Schedules.map D.Schedule.cells)))])), (1006, (.box [(vI 0), (vI 0), (vI 0), (vI 0), (vI 0), (vI 0)])), (1009, (.box [(vI 0), (vI 0), (vI p), (vI (kindV (nth (splitS t) 0))), (vI 0), (vI 0)]))]) = (mk [(1, (vI p)), (3, (.ref 1003 0)), (6, (.ref 1006 0)), (8, (.p (.sl true 1 ((splitS t).map D.cStr)))), (9, (.ref 1009 0)), (10, (vI 3)), (40, (vB false))] [(1003, (.box [(.p (.sl false 3 (c.Zones.map D.Zone.cells))), (.p (.sl false 6 (c.People.map D.Person.cells))), (.p (.sl false 3 (c.Calendars.map D.Calendar.cells))), (.p (.sl false 3 (c.Schedules.map D.Schedule.cells)))])), (1006, (.box [(vI 0), (vI 0), (vI 0), (vI 0), (vI 0), (vI 0)])), (1009, (.box [(vI 0), (vI 0), (vI p), (vI (kindV (nth (splitS t) 0))), (vI 0), (vI 0)]))]) from by rw [(decide_eq_false hc15)]) ?_ | skip
     by_cases hs25 : (((splitS t).length : Nat) : Int) ≠ (3 : Int)
     ·skip
      refine AWp.s_reg hGn hGk [.a, .a, .m (some 43) ⟨[(42, (vI (kindV (nth (splitS t) 0))))], [], (vB false), [], []⟩, .a, .a, .m (some 46) ⟨[(45, a'8), (44, (vB false))], [], (vI (((splitS t).length : Nat) : Int)), [], []⟩, .a, .m (some 48) ⟨[(46, (vI (((splitS t).length : Nat) : Int))), (47, (vI 3)), (44, (vB false))], [], (vB true), [], []⟩, .a, .a, .a, .a, .a, .a, .a, .a, .a, .a, .a, .a, .a, .a, .a, .a] ⟨StepOK.p rfl rfl rfl (OpOK.eqlI rfl rfl rfl (decide_eq_false hs24)),
       StepOK.g rfl rfl rfl rfl rfl (by simp) (OpOK.lenP (e := 9) rfl rfl (by kernel_rfl) rfl (by rw [List.length_map])),
       StepOK.g rfl rfl rfl rfl rfl (by simp) (OpOK.neqI rfl rfl rfl (decide_eq_true hs25)), trivial⟩ [(1, (vI p)), (3, (.ref 1003 0)), (6, (.ref 1006 0)), (8, a'8), (9, (.ref 1009 0)), (64, (vB true))] [(1003, a'6), (1006, a'7), (1009, a'9)] (by kernel_rfl) (by kernel_rfl) ?_
      refine AWp.cond_true rfl ?_
      refine AWp.s_reg hGn hGk (aa 3) (Man.aa _ _) [(6, (.ref 1006 0)), (7, (vI 2))] [(1006, a'7)] (by kernel_rfl) (by kernel_rfl) ?_
      refine AWp.ret ?_
      refine nextQ_ret ?_
      refine fin_of (.inr rfl) (v := (.tup [(.agg [(vI 0), (vI 0), (vI 0), (vI 0), (vI 0), (vI 0)]), (vI 2)])) (Res.many (by kernel_rfl) (Res1s.cons (Res1.agg rfl rfl (by kernel_rfl) (by kernel_rfl)) (Res1s.cons (Res1.tmp rfl) Res1s.nil))) (h' := []) rfl rfl ?_
      exact ⟨by rw [parseA_in (by assumption), parseW_bad (by first | (exfalso; omega) | (simp [badW, nWords, *]; done) | (simp [badW, nWords, *]; omega))] <;> rfl, rfl⟩
     ·skip
      by_cases hs26 : (nth (splitS t) 2) = (ByteArray.mk #[])
      ·skip
       refine AWp.s_reg hGn hGk [.a, .a, .m (some 43) ⟨[(42, (vI (kindV (nth (splitS t) 0))))], [], (vB false), [], []⟩, .a, .a, .m (some 46) ⟨[(45, a'8), (44, (vB false))], [], (vI (((splitS t).length : Nat) : Int)), [], []⟩, .a, .m (some 48) ⟨[(46, (vI (((splitS t).length : Nat) : Int))), (47, (vI 3)), (44, (vB false))], [], (vB false), [], []⟩, .a, .a, .a, .a, .m (some 53) ⟨[(52, (vI 3)), (50, (vB false))], [], (vI 2), [], []⟩, .m (some 54) ⟨[(51, a'8), (53, (vI 2)), (50, (vB false))], [], (.eptr [(pS (nth (splitS t) 2))]), [], []⟩, .a, .m (some 56) ⟨[(55, (vS (nth (splitS t) 2))), (50, (vB false))], [], (vB true), [], []⟩, .a, .a, .a, .a, .a, .a, .a, .a] ⟨StepOK.p rfl rfl rfl (OpOK.eqlI rfl rfl rfl (decide_eq_false hs24)),
        StepOK.g rfl rfl rfl rfl rfl (by simp) (OpOK.lenP (e := 9) rfl rfl (by kernel_rfl) rfl (by rw [List.length_map])),
        StepOK.g rfl rfl rfl rfl rfl (by simp) (OpOK.neqI rfl rfl rfl (decide_eq_false hs25)),
        StepOK.g rfl rfl rfl rfl rfl (by simp) (OpOK.sub rfl rfl rfl (by decide)),
        StepOK.g rfl rfl rfl rfl rfl (by simp) (OpOK.indexP (e := 9) rfl (by kernel_rfl) (by kernel_rfl) rfl rfl rfl (map_nth (show 2 < List.length (splitS t) by omega))),
        StepOK.g rfl rfl rfl rfl rfl (by simp) (OpOK.eqlS rfl rfl rfl (decide_eq_true hs26)), trivial⟩ [(1, (vI p)), (3, (.ref 1003 0)), (6, (.ref 1006 0)), (8, a'8), (9, (.ref 1009 0)), (64, (vB true))] [(1003, a'6), (1006, a'7), (1009, a'9)] (by kernel_rfl) (by kernel_rfl) ?_
       refine AWp.cond_true rfl ?_
       refine AWp.s_reg hGn hGk (aa 3) (Man.aa _ _) [(6, (.ref 1006 0)), (7, (vI 2))] [(1006, a'7)] (by kernel_rfl) (by kernel_rfl) ?_
       refine AWp.ret ?_
       refine nextQ_ret ?_
       refine fin_of (.inr rfl) (v := (.tup [(.agg [(vI 0), (vI 0), (vI 0), (vI 0), (vI 0), (vI 0)]), (vI 2)])) (Res.many (by kernel_rfl) (Res1s.cons (Res1.agg rfl rfl (by kernel_rfl) (by kernel_rfl)) (Res1s.cons (Res1.tmp rfl) Res1s.nil))) (h' := []) rfl rfl ?_
       exact ⟨by rw [parseA_in (by assumption), parseW_bad (by first | (exfalso; omega) | (simp [badW, nWords, *]; done) | (simp [badW, nWords, *]; omega))] <;> rfl, rfl⟩
      ·skip
       refine AWp.s_reg hGn hGk [.a, .a, .m (some 43) ⟨[(42, (vI (kindV (nth (splitS t) 0))))], [], (vB false), [], []⟩, .a, .a, .m (some 46) ⟨[(45, a'8), (44, (vB false))], [], (vI (((splitS t).length : Nat) : Int)), [], []⟩, .a, .m (some 48) ⟨[(46, (vI (((splitS t).length : Nat) : Int))), (47, (vI 3)), (44, (vB false))], [], (vB false), [], []⟩, .a, .a, .a, .a, .m (some 53) ⟨[(52, (vI 3)), (50, (vB false))], [], (vI 2), [], []⟩, .m (some 54) ⟨[(51, a'8), (53, (vI 2)), (50, (vB false))], [], (.eptr [(pS (nth (splitS t) 2))]), [], []⟩, .a, .m (some 56) ⟨[(55, (vS (nth (splitS t) 2))), (50, (vB false))], [], (vB false), [], []⟩, .a, .a, .a, .m (some 60) ⟨[(59, a'8), (58, (vB false))], [], (.eptr [(pS (nth (splitS t) 2))]), [], []⟩, .a, .m (some 62) ⟨[(61, (vS (nth (splitS t) 2))), (58, (vB false))], [], (vB (codeOK (nth (splitS t) 2))), [], []⟩, .a, .a] ⟨StepOK.p rfl rfl rfl (OpOK.eqlI rfl rfl rfl (decide_eq_false hs24)),
        StepOK.g rfl rfl rfl rfl rfl (by simp) (OpOK.lenP (e := 9) rfl rfl (by kernel_rfl) rfl (by rw [List.length_map])),
        StepOK.g rfl rfl rfl rfl rfl (by simp) (OpOK.neqI rfl rfl rfl (decide_eq_false hs25)),
        StepOK.g rfl rfl rfl rfl rfl (by simp) (OpOK.sub rfl rfl rfl (by decide)),
        StepOK.g rfl rfl rfl rfl rfl (by simp) (OpOK.indexP (e := 9) rfl (by kernel_rfl) (by kernel_rfl) rfl rfl rfl (map_nth (show 2 < List.length (splitS t) by omega))),
        StepOK.g rfl rfl rfl rfl rfl (by simp) (OpOK.eqlS rfl rfl rfl (decide_eq_false hs26)),
        StepOK.g rfl rfl rfl rfl rfl (by simp) (OpOK.indexP (e := 9) rfl (by kernel_rfl) (by kernel_rfl) rfl rfl rfl (map_nth (show 2 < List.length (splitS t) by omega))),
        StepOK.g rfl rfl rfl rfl rfl (by simp) (OpOK.call rfl (by kernel_rfl) rfl (ans_code (nth (splitS t) 2) (by omega)) (by kernel_rfl)), trivial⟩ [(1, (vI p)), (3, (.ref 1003 0)), (6, (.ref 1006 0)), (8, a'8), (9, (.ref 1009 0)), (64, (vB (!(codeOK (nth (splitS t) 2)))))] [(1003, a'6), (1006, a'7), (1009, a'9)] (by kernel_rfl) (by kernel_rfl) ?_
       refine AWp.cond (!(codeOK (nth (splitS t) 2))) rfl (fun hc27 => ?_) (fun hc27 => ?_)
       ·skip
        replace hc27 : codeOK (nth (splitS t) 2) = false := by simpa using hc27
        refine AWp.s_reg hGn hGk (aa 3) (Man.aa _ _) [(6, (.ref 1006 0)), (7, (vI 2))] [(1006, a'7)] (by kernel_rfl) (by kernel_rfl) ?_
        refine AWp.ret ?_
        refine nextQ_ret ?_
        refine fin_of (.inr rfl) (v := (.tup [(.agg [(vI 0), (vI 0), (vI 0), (vI 0), (vI 0), (vI 0)]), (vI 2)])) (Res.many (by kernel_rfl) (Res1s.cons (Res1.agg rfl rfl (by kernel_rfl) (by kernel_rfl)) (Res1s.cons (Res1.tmp rfl) Res1s.nil))) (h' := []) rfl rfl ?_
        exact ⟨by rw [parseA_in (by assumption), parseW_bad (by first | (exfalso; omega) | (simp [badW, nWords, *]; done) | (simp [badW, nWords, *]; omega))] <;> rfl, rfl⟩
       ·skip
        replace hc27 : codeOK (nth (splitS t) 2) = true := by simpa using hc27
        refine AWp.skip ?_
        refine nextQ_normal ?_
        refine AWp.s_reg hGn hGk (aa 1) (Man.aa _ _) [(1, (vI p)), (3, (.ref 1003 0)), (6, (.ref 1006 0)), (8, a'8), (9, (.ref 1009 0))] [(1003, a'6), (1006, a'7), (1009, a'9)] (by kernel_rfl) (by kernel_rfl) ?_
        refine AWp.seq ?_
        let a'17 : AV := (.tup [(vI (atoiV (nth (splitS t) 1))), (vB (numOK (nth (splitS t) 1) (999999 : Int)))])
        let a'18 : AO := (.box [(vI 0), (vI (atoiV (nth (splitS t) 1))), (vI p), (vI (kindV (nth (splitS t) 0))), (vI 0), (vI 0)])
        refine AWp.s_reg hGn hGk [.a, .m (some 68) ⟨[(67, a'8)], [], (.eptr [(pS (nth (splitS t) 1))]), [], []⟩, .a, .m (some 70) ⟨[(69, (vS (nth (splitS t) 1)))], [], a'17, [], []⟩, .a, .a, .a, .a, .a, .a] ⟨StepOK.p rfl rfl rfl (OpOK.indexP (e := 9) rfl (by kernel_rfl) (by kernel_rfl) rfl rfl rfl (map_nth (show 1 < List.length (splitS t) by omega))),
         StepOK.p rfl rfl rfl (OpOK.call rfl (by kernel_rfl) rfl (ans_number (nth (splitS t) 1) (999999 : Int) (by omega)) (by kernel_rfl)), trivial⟩ [(1, (vI p)), (3, (.ref 1003 0)), (6, (.ref 1006 0)), (8, a'8), (9, (.ref 1009 0)), (11, (vB (numOK (nth (splitS t) 1) (999999 : Int))))] [(1003, a'6), (1006, a'7), (1009, a'18)] (by kernel_rfl) (by kernel_rfl) ?_
        refine AWp.s_reg hGn hGk (aa 2) (Man.aa _ _) [(1, (vI p)), (3, (.ref 1003 0)), (6, (.ref 1006 0)), (8, a'8), (9, (.ref 1009 0)), (75, (vB (!(numOK (nth (splitS t) 1) (999999 : Int)))))] [(1003, a'6), (1006, a'7), (1009, a'18)] (by kernel_rfl) (by kernel_rfl) ?_
        refine AWp.cond (!(numOK (nth (splitS t) 1) (999999 : Int))) rfl (fun hc28 => ?_) (fun hc28 => ?_)
        ·skip
         replace hc28 : numOK (nth (splitS t) 1) (999999 : Int) = false := by simpa using hc28
         refine AWp.s_reg hGn hGk (aa 3) (Man.aa _ _) [(6, (.ref 1006 0)), (7, (vI 2))] [(1006, a'7)] (by kernel_rfl) (by kernel_rfl) ?_
         refine AWp.ret ?_
         refine nextQ_ret ?_
         refine fin_of (.inr rfl) (v := (.tup [(.agg [(vI 0), (vI 0), (vI 0), (vI 0), (vI 0), (vI 0)]), (vI 2)])) (Res.many (by kernel_rfl) (Res1s.cons (Res1.agg rfl rfl (by kernel_rfl) (by kernel_rfl)) (Res1s.cons (Res1.tmp rfl) Res1s.nil))) (h' := []) rfl rfl ?_
         exact ⟨by rw [parseA_in (by assumption), parseW_bad (by first | (exfalso; omega) | (simp [badW, nWords, *]; done) | (simp [badW, nWords, *]; omega))] <;> rfl, rfl⟩
        ·skip
         replace hc28 : numOK (nth (splitS t) 1) (999999 : Int) = true := by simpa using hc28
         refine AWp.skip ?_
         refine nextQ_normal ?_
         refine AWp.seq ?_
         refine AWp.s_reg hGn hGk [.a, .a, .m (some 79) ⟨[(78, (vI (kindV (nth (splitS t) 0))))], [], (vB false), [], []⟩] ⟨StepOK.p rfl rfl rfl (OpOK.eqlI rfl rfl rfl (decide_eq_false hs4)), trivial⟩ [(1, (vI p)), (3, (.ref 1003 0)), (6, (.ref 1006 0)), (8, a'8), (9, (.ref 1009 0)), (79, (vB false))] [(1003, a'6), (1006, a'7), (1009, a'18)] (by kernel_rfl) (by kernel_rfl) ?_
         refine AWp.cond_false rfl ?_
         refine AWp.skip ?_
         refine nextQ_normal ?_
         refine AWp.seq ?_
         have hf29 := ansCode_le (atoiV (nth (splitS t) 1)) p
         refine AWp.s_dreg hGn hGk (by kernel_rfl) [.a, .m (some 92) ⟨[(91, a'8)], [], (.eptr [(pS (nth (splitS t) 2))]), [], []⟩, .a, .a, .a, .a, .m (some 97) ⟨[(95, (vI (atoiV (nth (splitS t) 1)))), (96, (vI p))], [], (vI (ansCode (atoiV (nth (splitS t) 1)) p)), [], []⟩, .m (some 98) ⟨[(97, (vI (ansCode (atoiV (nth (splitS t) 1)) p)))], [], (vS (digB (ansCode (atoiV (nth (splitS t) 1)) p))), [], []⟩, .a] ⟨StepOK.p rfl rfl rfl (OpOK.indexP (e := 9) rfl (by kernel_rfl) (by kernel_rfl) rfl rfl rfl (map_nth (show 2 < List.length (splitS t) by omega))),
          StepOK.p rfl rfl rfl (OpOK.call rfl (by kernel_rfl) rfl (ans_Code (atoiV (nth (splitS t) 1)) p) (by kernel_rfl)),
          StepOK.p rfl rfl rfl (OpOK.call rfl (by kernel_rfl) rfl (ans_digits (ansCode (atoiV (nth (splitS t) 1)) p) (by omega) (by omega)) (by kernel_rfl)), trivial⟩ [(3, (.ref 1003 0)), (6, (.ref 1006 0)), (8, a'8), (9, (.ref 1009 0)), (99, (vB (decide ((nth (splitS t) 2) ≠ (digB (ansCode (atoiV (nth (splitS t) 1)) p))))))] [(1003, a'6), (1006, a'7), (1009, a'18)] (by kernel_rfl) (by kernel_rfl) (by kernel_rfl) ?_
         refine AWp.cond (decide ((nth (splitS t) 2) ≠ (digB (ansCode (atoiV (nth (splitS t) 1)) p)))) rfl (fun hc30 => ?_) (fun hc30 => ?_)
         ·skip
          replace hc30 := of_decide_eq_true hc30
          refine AWp.s_reg hGn hGk (aa 3) (Man.aa _ _) [(6, (.ref 1006 0)), (7, (vI 20))] [(1006, a'7)] (by kernel_rfl) (by kernel_rfl) ?_
          refine AWp.ret ?_
          refine nextQ_ret ?_
          refine fin_of (.inr rfl) (v := (.tup [(.agg [(vI 0), (vI 0), (vI 0), (vI 0), (vI 0), (vI 0)]), (vI 20)])) (Res.many (by kernel_rfl) (Res1s.cons (Res1.agg rfl rfl (by kernel_rfl) (by kernel_rfl)) (Res1s.cons (Res1.tmp rfl) Res1s.nil))) (h' := []) rfl rfl ?_
          exact ⟨by rw [parseA_in (by assumption), parseW_code (by first | (exfalso; omega) | (simp [badW, nWords, *]; done) | (simp [badW, nWords, *]; omega)) (by assumption)] <;> rfl, rfl⟩
         ·skip
          replace hc30 := of_decide_eq_false hc30
          refine AWp.skip ?_
          refine nextQ_normal ?_
          refine AWp.seq ?_
          refine AWp.s_reg hGn hGk [.a, .a, .m (some 103) ⟨[(102, (vI (kindV (nth (splitS t) 0))))], [], (vB false), [], []⟩] ⟨StepOK.p rfl rfl rfl (OpOK.eqlI rfl rfl rfl (decide_eq_false hc15)), trivial⟩ [(3, (.ref 1003 0)), (6, (.ref 1006 0)), (8, a'8), (9, (.ref 1009 0)), (103, (vB false))] [(1003, a'6), (1006, a'7), (1009, a'18)] (by kernel_rfl) (by kernel_rfl) ?_
          refine AWp.cond_false rfl ?_
          refine AWp.skip ?_
          refine nextQ_normal ?_
          refine AWp.s_reg hGn hGk (aa 3) (Man.aa _ _) [(6, (.ref 1006 0)), (7, (vI 0))] [(1006, a'18)] (by kernel_rfl) (by kernel_rfl) ?_
          refine AWp.ret ?_
          refine fin_of (.inr rfl) (v := (.tup [(.agg [(vI 0), (vI (atoiV (nth (splitS t) 1))), (vI p), (vI (kindV (nth (splitS t) 0))), (vI 0), (vI 0)]), (vI 0)])) (Res.many (by kernel_rfl) (Res1s.cons (Res1.agg rfl rfl (by kernel_rfl) (by kernel_rfl)) (Res1s.cons (Res1.tmp rfl) Res1s.nil))) (h' := []) rfl rfl ?_
          exact ⟨by rw [parseA_in (by assumption), parseW_plain (by assumption) (by assumption) (by first | (exfalso; omega) | (simp [badW, nWords, *]; done) | (simp [badW, nWords, *]; omega)) (by assumption)] <;> rfl, rfl⟩
end Go.Proofs.YtimfbibaoppfcaaGreatDoor
