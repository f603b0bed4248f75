/-
  The walks of configurations: people, edits, layers. Printed by wip/gen/pol.py.
-/
import Derived.Test.YtimfbibaoppfcaaGreatDoorCfgWalk1
import Derived.Test.YtimfbibaoppfcaaGreatDoorCrewLaw
set_option maxRecDepth 100000
set_option linter.unusedSimpArgs false
set_option linter.unusedVariables false
namespace Go.Proofs.YtimfbibaoppfcaaGreatDoor
open Go AM
theorem res_index (i n : Int) :
    SpecIs Tryz.prog 104 [(vI i), (vI n)] [] (vB (inB i 0 (n - 1))) [] := by
 refine Spec.intro Tryz.func104 rfl (by kernel_rfl) ?_
 intro Γ hGn hGk
 replace hGn : Γ.n = 12 := hGn
 replace hGk : Γ.names = [] := hGk
 refine AWp.weaken (mk [(0, (vI i)), (1, (vI n))] []) (Weak.sub' hGk (by kernel_rfl)) ?_
 refine AWp.s_reg hGn hGk (aa 1) (Man.aa _ _) [(0, (vI i)), (1, (vI n))] [] (by kernel_rfl) (by kernel_rfl) ?_
 by_cases hs1 : (0 : Int) ≤ i
 ·skip
  refine AWp.s_reg hGn hGk [.a, .m (some 6) ⟨[(5, (vI i))], [], (vB true), [], []⟩, .a, .a, .a, .a, .a, .a] ⟨StepOK.p rfl rfl rfl (OpOK.geq rfl rfl rfl (decide_eq_true hs1)), trivial⟩ [(4, (vB (decide (i < n))))] [] (by kernel_rfl) (by kernel_rfl) ?_
  refine AWp.ret ?_
  refine fin_of (.inr rfl) (v := (vB (decide (i < n)))) (Res.tmp rfl rfl) (h' := []) rfl rfl ?_
  exact ⟨congrArg (fun q => vB q) (Bool.eq_iff_iff.2 (by rw [inB_iff]; first | (rw [decide_eq_true_iff]; omega) | (simp; omega))), rfl⟩
 ·skip
  refine AWp.s_reg hGn hGk [.a, .m (some 6) ⟨[(5, (vI i))], [], (vB false), [], []⟩, .a, .a, .a, .a, .a, .a] ⟨StepOK.p rfl rfl rfl (OpOK.geq rfl rfl rfl (decide_eq_false hs1)), trivial⟩ [(4, (vB false))] [] (by kernel_rfl) (by kernel_rfl) ?_
  refine AWp.ret ?_
  refine fin_of (.inr rfl) (v := (vB false)) (Res.tmp rfl rfl) (h' := []) rfl rfl ?_
  exact ⟨congrArg (fun q => vB q) (Bool.eq_iff_iff.2 (by rw [inB_iff]; first | (rw [decide_eq_true_iff]; omega) | (simp; omega))), rfl⟩
theorem res_hours (n : Int) (hn : n = 0) :
    SpecIs Tryz.prog 106 [(vI n)] [] (vB true) [] := by
 refine Spec.intro Tryz.func106 rfl (by kernel_rfl) ?_
 intro Γ hGn hGk
 replace hGn : Γ.n = 10 := hGn
 replace hGk : Γ.names = [] := hGk
 refine AWp.weaken (mk [(0, (vI n))] []) (Weak.sub' hGk (by kernel_rfl)) ?_
 refine AWp.s_reg hGn hGk (aa 1) (Man.aa _ _) [(0, (vI n))] [] (by kernel_rfl) (by kernel_rfl) ?_
 refine AWp.s_reg hGn hGk [.a, .m (some 4) ⟨[(3, (vI n))], [], (vB true), [], []⟩, .a, .a, .m (some 7) ⟨[(6, (vI n)), (5, (vB true))], [], (vI (n % 3600)), [], []⟩, .m (some 8) ⟨[(7, (vI (n % 3600))), (5, (vB true))], [], (vB true), [], []⟩, .a, .a] ⟨StepOK.p rfl rfl rfl (OpOK.call rfl (by kernel_rfl) rfl (by have hq := (res_in n (0 : Int) (604800 : Int)); rw [(inB_true (by omega))] at hq; exact hq) (by kernel_rfl)),
  StepOK.g rfl rfl rfl rfl rfl (by simp) (OpOK.rem rfl rfl rfl (by omega) (Int.tmod_eq_emod_of_nonneg (by omega))),
  StepOK.g rfl rfl rfl rfl rfl (by simp) (OpOK.eqlI rfl rfl rfl (decide_eq_true (by omega))), trivial⟩ [(2, (vB true))] [] (by kernel_rfl) (by kernel_rfl) ?_
 refine AWp.ret ?_
 refine fin_of (.inr rfl) (v := (vB true)) (Res.tmp rfl rfl) (h' := []) rfl rfl ?_
 exact ⟨rfl, rfl⟩
theorem week_Check (l : List D.Window) :
    SpecIs Tryz.prog 105 [(.p (.sl false 2 (l.map D.Window.cells)))] [] (vI (windowsErr l)) [] := by
 refine Spec.intro Tryz.func105 rfl (by kernel_rfl) ?_
 intro Γ hGn hGk
 replace hGn : Γ.n = 46 := hGn
 replace hGk : Γ.names = [] := hGk
 let a'1 : AV := (.p (.sl false 2 (l.map D.Window.cells)))
 refine AWp.weaken (mk [(0, a'1)] []) (Weak.sub' hGk (by kernel_rfl)) ?_
 refine AWp.s_reg hGn hGk (aa 1) (Man.aa _ _) [(0, a'1)] [] (by kernel_rfl) (by kernel_rfl) ?_
 refine AWp.seq ?_
 refine AWp.s_reg hGn hGk [.a, .m (some 6) ⟨[(5, a'1)], [], (vI ((l.length : Nat) : Int)), [], []⟩, .a] ⟨StepOK.p rfl rfl rfl (OpOK.lenP (e := 77) rfl rfl (by kernel_rfl) rfl (by rw [List.length_map])), trivial⟩ [(0, a'1), (7, (vB (decide ((14 : Int) < ((l.length : Nat) : Int)))))] [] (by kernel_rfl) (by kernel_rfl) ?_
 refine AWp.cond (decide ((14 : Int) < ((l.length : Nat) : Int))) rfl (fun hc1 => ?_) (fun hc1 => ?_)
 ·skip
  replace hc1 := of_decide_eq_true hc1
  refine AWp.s_reg hGn hGk (aa 1) (Man.aa _ _) [(2, (vI 5))] [] (by kernel_rfl) (by kernel_rfl) ?_
  refine AWp.ret ?_
  refine nextQ_ret ?_
  refine fin_of (.inr rfl) (v := (vI 5)) (Res.tmp rfl rfl) (h' := []) rfl rfl ?_
  exact ⟨by rw [show windowsErr l = 5 from by unfold windowsErr; rw [if_pos (by omega)]], rfl⟩
 ·skip
  replace hc1 := of_decide_eq_false hc1
  refine AWp.skip ?_
  refine nextQ_normal ?_
  refine AWp.seq ?_
  refine AWp.s_reg hGn hGk [.a, .m (some 9) ⟨[(8, a'1)], [], (vI ((l.length : Nat) : Int)), [], []⟩, .a] ⟨StepOK.p rfl rfl rfl (OpOK.lenP (e := 77) rfl rfl (by kernel_rfl) rfl (by rw [List.length_map])), trivial⟩ [(0, a'1), (8, a'1), (9, (vI ((l.length : Nat) : Int))), (10, (vI 0))] [] (by kernel_rfl) (by kernel_rfl) ?_
  refine AWp.block ?_
  refine AWp.loop (fun m s => ∃ i, s = (mk [(0, (.p (.sl false 2 (l.map D.Window.cells)))), (8, (.p (.sl false 2 (l.map D.Window.cells)))), (9, (vI ((l.length : Nat) : Int))), (10, (vI ((i : Nat) : Int)))] []) ∧ (i ≤ l.length) ∧ (firstN (windowErr l) i = 0) ∧ m = (l.length - i))
   ⟨_, 0, rfl, (by omega), rfl, rfl⟩ ?_
  rintro mm2 s ⟨i, rfl, hi, hz, hmm2⟩
  refine AWp.s_reg hGn hGk (aa 1) (Man.aa _ _) [(0, a'1), (8, a'1), (9, (vI ((l.length : Nat) : Int))), (10, (vI ((i : Nat) : Int))), (11, (vB (decide (((i : Nat) : Int) < ((l.length : Nat) : Int)))))] [] (by kernel_rfl) (by kernel_rfl) ?_
  refine AWp.seq ?_
  refine AWp.cond (decide (((i : Nat) : Int) < ((l.length : Nat) : Int))) rfl (fun hc3 => ?_) (fun hc3 => ?_)
  ·skip
   replace hc3 := of_decide_eq_true hc3
   refine AWp.skip ?_
   refine nextQ_normal ?_
   refine AWp.seq ?_
   refine AWp.block ?_
   let a'2 : AO := (.box [(vI ((nth l i).From)), (vI ((nth l i).To))])
   refine AWp.s_reg hGn hGk [.a, .m (some 13) ⟨[(8, a'1), (10, (vI ((i : Nat) : Int)))], [], (.eptr [(pI ((nth l i).From)), (pI ((nth l i).To))]), [], []⟩, .a, .a, .a, .a] ⟨StepOK.p rfl rfl rfl (OpOK.indexP (e := 77) rfl (by kernel_rfl) (by kernel_rfl) rfl rfl rfl (map_nth (by omega))), trivial⟩ [(0, a'1), (3, (vI ((i : Nat) : Int))), (4, (.ref 1004 0)), (8, a'1), (9, (vI ((l.length : Nat) : Int))), (10, (vI ((i : Nat) : Int)))] [(1004, a'2)] (by kernel_rfl) (by kernel_rfl) ?_
   refine AWp.block ?_
   by_cases hs4 : ((nth l i).From) < (0 : Int)
   ·skip
    refine AWp.s_reg hGn hGk [.a, .a, .m (some 18) ⟨[(17, (vI ((nth l i).From)))], [], (vB true), [], []⟩, .a, .a, .a, .a, .a, .a, .a, .a, .a, .a, .a, .a, .a] ⟨StepOK.p rfl rfl rfl (OpOK.lss rfl rfl rfl (decide_eq_true hs4)), trivial⟩ [(0, a'1), (3, (vI ((i : Nat) : Int))), (4, (.ref 1004 0)), (8, a'1), (9, (vI ((l.length : Nat) : Int))), (10, (vI ((i : Nat) : Int))), (15, (vB true))] [(1004, a'2)] (by kernel_rfl) (by kernel_rfl) ?_
    refine AWp.cond_true rfl ?_
    refine AWp.s_reg hGn hGk (aa 1) (Man.aa _ _) [(2, (vI 1))] [] (by kernel_rfl) (by kernel_rfl) ?_
    refine AWp.ret ?_
    refine blockQ_ret ?_
    refine blockQ_ret ?_
    refine nextQ_ret ?_
    refine nextQ_ret ?_
    refine blockQ_ret ?_
    refine nextQ_ret ?_
    refine fin_of (.inr rfl) (v := (vI 1)) (Res.tmp rfl rfl) (h' := []) rfl rfl ?_
    exact ⟨by rw [show windowsErr l = 1 from by unfold windowsErr; rw [if_neg (by omega)]; exact firstN_err hz (by omega) (by unfold windowErr; rw [if_pos (by omega)]) (by decide)], rfl⟩
   ·skip
    by_cases hs5 : ((nth l i).To) ≤ ((nth l i).From)
    ·skip
     refine AWp.s_reg hGn hGk [.a, .a, .m (some 18) ⟨[(17, (vI ((nth l i).From)))], [], (vB false), [], []⟩, .a, .a, .a, .a, .a, .m (some 24) ⟨[(21, (vI ((nth l i).From))), (23, (vI ((nth l i).To))), (19, (vB false))], [], (vB true), [], []⟩, .a, .a, .a, .a, .a, .a, .a] ⟨StepOK.p rfl rfl rfl (OpOK.lss rfl rfl rfl (decide_eq_false hs4)),
      StepOK.g rfl rfl rfl rfl rfl (by simp) (OpOK.geq rfl rfl rfl (decide_eq_true hs5)), trivial⟩ [(0, a'1), (3, (vI ((i : Nat) : Int))), (4, (.ref 1004 0)), (8, a'1), (9, (vI ((l.length : Nat) : Int))), (10, (vI ((i : Nat) : Int))), (15, (vB true))] [(1004, a'2)] (by kernel_rfl) (by kernel_rfl) ?_
     refine AWp.cond_true rfl ?_
     refine AWp.s_reg hGn hGk (aa 1) (Man.aa _ _) [(2, (vI 1))] [] (by kernel_rfl) (by kernel_rfl) ?_
     refine AWp.ret ?_
     refine blockQ_ret ?_
     refine blockQ_ret ?_
     refine nextQ_ret ?_
     refine nextQ_ret ?_
     refine blockQ_ret ?_
     refine nextQ_ret ?_
     refine fin_of (.inr rfl) (v := (vI 1)) (Res.tmp rfl rfl) (h' := []) rfl rfl ?_
     exact ⟨by rw [show windowsErr l = 1 from by unfold windowsErr; rw [if_neg (by omega)]; exact firstN_err hz (by omega) (by unfold windowErr; rw [if_pos (by omega)]) (by decide)], rfl⟩
    ·skip
     refine AWp.s_reg hGn hGk [.a, .a, .m (some 18) ⟨[(17, (vI ((nth l i).From)))], [], (vB false), [], []⟩, .a, .a, .a, .a, .a, .m (some 24) ⟨[(21, (vI ((nth l i).From))), (23, (vI ((nth l i).To))), (19, (vB false))], [], (vB false), [], []⟩, .a, .a, .a, .a, .a, .a, .a] ⟨StepOK.p rfl rfl rfl (OpOK.lss rfl rfl rfl (decide_eq_false hs4)),
      StepOK.g rfl rfl rfl rfl rfl (by simp) (OpOK.geq rfl rfl rfl (decide_eq_false hs5)), trivial⟩ [(0, a'1), (3, (vI ((i : Nat) : Int))), (4, (.ref 1004 0)), (8, a'1), (9, (vI ((l.length : Nat) : Int))), (10, (vI ((i : Nat) : Int))), (15, (vB (decide ((604800 : Int) < ((nth l i).To)))))] [(1004, a'2)] (by kernel_rfl) (by kernel_rfl) ?_
     refine AWp.cond (decide ((604800 : Int) < ((nth l i).To))) rfl (fun hc6 => ?_) (fun hc6 => ?_)
     ·skip
      replace hc6 := of_decide_eq_true hc6
      refine AWp.s_reg hGn hGk (aa 1) (Man.aa _ _) [(2, (vI 1))] [] (by kernel_rfl) (by kernel_rfl) ?_
      refine AWp.ret ?_
      refine blockQ_ret ?_
      refine blockQ_ret ?_
      refine nextQ_ret ?_
      refine nextQ_ret ?_
      refine blockQ_ret ?_
      refine nextQ_ret ?_
      refine fin_of (.inr rfl) (v := (vI 1)) (Res.tmp rfl rfl) (h' := []) rfl rfl ?_
      exact ⟨by rw [show windowsErr l = 1 from by unfold windowsErr; rw [if_neg (by omega)]; exact firstN_err hz (by omega) (by unfold windowErr; rw [if_pos (by omega)]) (by decide)], rfl⟩
     ·skip
      replace hc6 := of_decide_eq_false hc6
      by_cases hs7 : (0 : Int) < ((i : Nat) : Int)
      ·skip
       first | refine AWp.cast (show (mk [(0, (.p (.sl false 2 (l.map D.Window.cells)))), (3, (vI ((i : Nat) : Int))), (4, (.ref 1004 0)), (8, (.p (.sl false 2 (l.map D.Window.cells)))), (9, (vI ((l.length : Nat) : Int))), (10, (vI ((i : Nat) : Int))), (15, (vB (decide ((604800 : Int) < ((nth l i).To)))))] [(1004, (.box [(vI ((nth l i).From)), (vI ((nth l i).To))]))]) = (mk [(0, (.p (.sl false 2 (l.map D.Window.cells)))), (3, (vI ((i : Nat) : Int))), (4, (.ref 1004 0)), (8, (.p (.sl false 2 (l.map D.Window.cells)))), (9, (vI ((l.length : Nat) : Int))), (10, (vI ((i : Nat) : Int))), (15, (vB false))] [(1004, (.box [(vI ((nth l i).From)), (vI ((nth l i).To))]))]) from by rw [(decide_eq_false hc6)]) ?_ | skip
       refine AWp.s_dreg hGn hGk (by kernel_rfl) [.a, .m (some 33) ⟨[(32, (vI ((i : Nat) : Int)))], [], (vB true), [], []⟩, .a, .a, .a, .a, .a, .m (some 39) ⟨[(38, (vI ((i : Nat) : Int))), (34, (vB true))], [], (vI ((i - 1 : Nat) : Int)), [], []⟩, .m (some 40) ⟨[(37, a'1), (39, (vI ((i - 1 : Nat) : Int))), (34, (vB true))], [], (.eptr [(pI ((nth l (i - 1)).From)), (pI ((nth l (i - 1)).To))]), [], []⟩, .a, .a, .a, .a, .a] ⟨StepOK.p rfl rfl rfl (OpOK.gtr rfl rfl rfl (decide_eq_true hs7)),
        StepOK.g rfl rfl rfl rfl rfl (by simp) (OpOK.sub rfl rfl rfl (by rw [IntWalk.i64_in _ ⟨by omega, by omega⟩]; omega)),
        StepOK.g rfl rfl rfl rfl rfl (by simp) (OpOK.indexP (e := 77) rfl (by kernel_rfl) (by kernel_rfl) rfl rfl rfl (map_nth (by omega))), trivial⟩ [(0, a'1), (8, a'1), (9, (vI ((l.length : Nat) : Int))), (10, (vI ((i : Nat) : Int))), (31, (vB (decide (((nth l i).From) < ((nth l (i - 1)).To)))))] [] (by kernel_rfl) (by kernel_rfl) (by kernel_rfl) ?_
       refine AWp.cond (decide (((nth l i).From) < ((nth l (i - 1)).To))) rfl (fun hc8 => ?_) (fun hc8 => ?_)
       ·skip
        replace hc8 := of_decide_eq_true hc8
        refine AWp.s_reg hGn hGk (aa 1) (Man.aa _ _) [(2, (vI 6))] [] (by kernel_rfl) (by kernel_rfl) ?_
        refine AWp.ret ?_
        refine blockQ_ret ?_
        refine blockQ_ret ?_
        refine nextQ_ret ?_
        refine nextQ_ret ?_
        refine blockQ_ret ?_
        refine nextQ_ret ?_
        refine fin_of (.inr rfl) (v := (vI 6)) (Res.tmp rfl rfl) (h' := []) rfl rfl ?_
        exact ⟨by rw [show windowsErr l = 6 from by unfold windowsErr; rw [if_neg (by omega)]; exact firstN_err hz (by omega) (by unfold windowErr; rw [if_neg (by omega), if_pos (by omega)]) (by decide)], rfl⟩
       ·skip
        replace hc8 := of_decide_eq_false hc8
        refine AWp.skip ?_
        refine blockQ_normal ?_
        refine blockQ_normal ?_
        refine nextQ_normal ?_
        refine AWp.reg' hGn hGk [.m (some 45) ⟨[(10, (vI ((i : Nat) : Int)))], [], (vI ((i + 1 : Nat) : Int)), [], []⟩, .a] ⟨StepOK.p rfl rfl rfl (OpOK.add rfl rfl rfl (by rw [IntWalk.i64_in _ ⟨by omega, by omega⟩]; omega)), trivial⟩ [(0, a'1), (8, a'1), (9, (vI ((l.length : Nat) : Int))), (10, (vI ((i + 1 : Nat) : Int)))] [] (by kernel_rfl) (by kernel_rfl) ?_
        refine nextQ_normal ⟨_, ?_, (i + 1), rfl, (by omega), (firstN_step hz (by unfold windowErr; rw [if_neg (by omega), if_neg (by omega)])), rfl⟩
        · omega
      ·skip
       first | refine AWp.cast (show (mk [(0, (.p (.sl false 2 (l.map D.Window.cells)))), (3, (vI ((i : Nat) : Int))), (4, (.ref 1004 0)), (8, (.p (.sl false 2 (l.map D.Window.cells)))), (9, (vI ((l.length : Nat) : Int))), (10, (vI ((i : Nat) : Int))), (15, (vB (decide ((604800 : Int) < ((nth l i).To)))))] [(1004, (.box [(vI ((nth l i).From)), (vI ((nth l i).To))]))]) = (mk [(0, (.p (.sl false 2 (l.map D.Window.cells)))), (3, (vI ((i : Nat) : Int))), (4, (.ref 1004 0)), (8, (.p (.sl false 2 (l.map D.Window.cells)))), (9, (vI ((l.length : Nat) : Int))), (10, (vI ((i : Nat) : Int))), (15, (vB false))] [(1004, (.box [(vI ((nth l i).From)), (vI ((nth l i).To))]))]) from by rw [(decide_eq_false hc6)]) ?_ | skip
       refine AWp.s_dreg hGn hGk (by kernel_rfl) [.a, .m (some 33) ⟨[(32, (vI ((i : Nat) : Int)))], [], (vB false), [], []⟩, .a, .a, .a, .a, .a, .a, .a, .a, .a, .a, .a, .a] ⟨StepOK.p rfl rfl rfl (OpOK.gtr rfl rfl rfl (decide_eq_false hs7)), trivial⟩ [(0, a'1), (8, a'1), (9, (vI ((l.length : Nat) : Int))), (10, (vI ((i : Nat) : Int))), (31, (vB false))] [] (by kernel_rfl) (by kernel_rfl) (by kernel_rfl) ?_
       refine AWp.cond_false rfl ?_
       refine AWp.skip ?_
       refine blockQ_normal ?_
       refine blockQ_normal ?_
       refine nextQ_normal ?_
       refine AWp.reg' hGn hGk [.m (some 45) ⟨[(10, (vI ((i : Nat) : Int)))], [], (vI ((i + 1 : Nat) : Int)), [], []⟩, .a] ⟨StepOK.p rfl rfl rfl (OpOK.add rfl rfl rfl (by rw [IntWalk.i64_in _ ⟨by omega, by omega⟩]; omega)), trivial⟩ [(0, a'1), (8, a'1), (9, (vI ((l.length : Nat) : Int))), (10, (vI ((i + 1 : Nat) : Int)))] [] (by kernel_rfl) (by kernel_rfl) ?_
       refine nextQ_normal ⟨_, ?_, (i + 1), rfl, (by omega), (firstN_step hz (by unfold windowErr; rw [if_neg (by omega), if_neg (by omega)])), rfl⟩
       · omega
  ·skip
   replace hc3 := of_decide_eq_false hc3
   refine AWp.weaken (mk [] []) (Weak.sub' hGk (by kernel_rfl)) ?_
   refine AWp.exit ?_
   refine nextQ_exit ?_
   refine nextQ_exit ?_
   refine blockQ_exit ?_
   refine nextQ_normal ?_
   refine AWp.s_reg hGn hGk (aa 1) (Man.aa _ _) [(2, (vI 0))] [] (by kernel_rfl) (by kernel_rfl) ?_
   refine AWp.ret ?_
   refine fin_of (.inr rfl) (v := (vI 0)) (Res.tmp rfl rfl) (h' := []) rfl rfl ?_
   exact ⟨by rw [show windowsErr l = 0 from by unfold windowsErr; rw [if_neg (by omega), show l.length = i by omega]; exact hz], rfl⟩
theorem res_person (c : D.Config) (p : D.Person) (h : PersonOK p) (hz1 : c.Zones.length = 1) :
    SpecIs Tryz.prog 69 [(.agg [(.p (.sl false 3 (c.Zones.map D.Zone.cells))), (.p (.sl false 6 (c.People.map D.Person.cells))), (.p (.sl false 3 (c.Calendars.map D.Calendar.cells))), (.p (.sl false 3 (c.Schedules.map D.Schedule.cells)))]), (.agg [(vS p.Name), (vI p.Zone), (.p (.sl false 2 (p.Quiet.map D.Window.cells))), (vI p.MaxWeek), (vI p.MinRest), (vB p.Consent)])] [] (vI 0) [] := by
 refine Spec.intro Tryz.func69 rfl (by kernel_rfl) ?_
 intro Γ hGn hGk
 replace hGn : Γ.n = 29 := hGn
 replace hGk : Γ.names = [] := hGk
 obtain ⟨hnm, hzo, hq, hmx⟩ := h
 obtain ⟨hq1, hq2⟩ := hq
 obtain ⟨hm1, hm2⟩ := hmx
 let a'1 : AV := (.p (.sl false 3 (c.Zones.map D.Zone.cells)))
 let a'2 : AV := (.p (.sl false 2 (p.Quiet.map D.Window.cells)))
 refine AWp.weaken (mk [(0, (.agg [a'1, (.p (.sl false 6 (c.People.map D.Person.cells))), (.p (.sl false 3 (c.Calendars.map D.Calendar.cells))), (.p (.sl false 3 (c.Schedules.map D.Schedule.cells)))])), (1, (.agg [(vS p.Name), (vI p.Zone), a'2, (vI p.MaxWeek), (vI p.MinRest), (vB p.Consent)]))] []) (Weak.sub' hGk (by kernel_rfl)) ?_
 let a'3 : AO := (.box [(vS p.Name), (vI p.Zone), a'2, (vI p.MaxWeek), (vI p.MinRest), (vB p.Consent)])
 refine AWp.s_reg hGn hGk (aa 3) (Man.aa _ _) [(2, (.ref 1002 0)), (3, (.ref 1003 0))] [(1002, (.box [a'1, (.p (.sl false 6 (c.People.map D.Person.cells))), (.p (.sl false 3 (c.Calendars.map D.Calendar.cells))), (.p (.sl false 3 (c.Schedules.map D.Schedule.cells)))])), (1003, a'3)] (by kernel_rfl) (by kernel_rfl) ?_
 refine AWp.seq ?_
 refine AWp.block ?_
 refine AWp.s_reg hGn hGk [.a, .a, .a, .a, .m (some 10) ⟨[(9, a'1)], [], (vI ((c.Zones.length : Nat) : Int)), [], []⟩, .m (some 11) ⟨[(7, (vI p.Zone)), (10, (vI ((c.Zones.length : Nat) : Int)))], [], (vB true), [], []⟩, .a, .a] ⟨StepOK.p rfl rfl rfl (OpOK.lenP (e := 72) rfl rfl (by kernel_rfl) rfl (by rw [List.length_map])),
  StepOK.p rfl rfl rfl (OpOK.call rfl (by kernel_rfl) rfl (by have hq := (res_index p.Zone ((c.Zones.length : Nat) : Int)); rw [(inB_true (by omega))] at hq; exact hq) (by kernel_rfl)), trivial⟩ [(3, (.ref 1003 0)), (5, (vB false))] [(1003, a'3)] (by kernel_rfl) (by kernel_rfl) ?_
 refine AWp.cond_false rfl ?_
 refine AWp.s_reg hGn hGk [.a, .a, .m (some 16) ⟨[(15, a'2)], [], (vI (windowsErr p.Quiet)), [], []⟩, .m (some 17) ⟨[(16, (vI (windowsErr p.Quiet)))], [], (vB false), [], []⟩, .a] ⟨StepOK.p rfl rfl rfl (OpOK.call rfl (by kernel_rfl) rfl (week_Check p.Quiet) (by kernel_rfl)),
  StepOK.p rfl rfl rfl (OpOK.neqI rfl rfl rfl (decide_eq_false (by omega))), trivial⟩ [(3, (.ref 1003 0)), (13, (vB false))] [(1003, a'3)] (by kernel_rfl) (by kernel_rfl) ?_
 refine AWp.cond_false rfl ?_
 refine AWp.s_reg hGn hGk [.a, .a, .m (some 21) ⟨[(20, (vI p.MaxWeek))], [], (vB true), [], []⟩, .a, .a, .a, .a, .m (some 26) ⟨[(25, (vI p.MinRest)), (23, (vB false))], [], (vB true), [], []⟩, .a, .a, .a] ⟨StepOK.p rfl rfl rfl (OpOK.call rfl (by kernel_rfl) rfl (res_hours p.MaxWeek (by omega)) (by kernel_rfl)),
  StepOK.g rfl rfl rfl rfl rfl (by simp) (OpOK.call rfl (by kernel_rfl) rfl (res_hours p.MinRest (by omega)) (by kernel_rfl)), trivial⟩ [(18, (vB false))] [] (by kernel_rfl) (by kernel_rfl) ?_
 refine AWp.cond_false rfl ?_
 refine AWp.skip ?_
 refine blockQ_normal ?_
 refine nextQ_normal ?_
 refine AWp.s_reg hGn hGk (aa 1) (Man.aa _ _) [(4, (vI 0))] [] (by kernel_rfl) (by kernel_rfl) ?_
 refine AWp.ret ?_
 refine fin_of (.inr rfl) (v := (vI 0)) (Res.tmp rfl rfl) (h' := []) rfl rfl ?_
 exact ⟨rfl, rfl⟩
theorem res_edit0 (c : D.Config) (x : D.Edit) (hk : x.Kind = 0) (ha : 0 ≤ x.A ∧ x.A < 4) (hb : x.B = 0) (ht : 0 ≤ x.From ∧ x.From < x.To ∧ x.To < 2592000) (hp4 : c.People.length = 4) :
    SpecIs Tryz.prog 114 [(.agg [(.p (.sl false 3 (c.Zones.map D.Zone.cells))), (.p (.sl false 6 (c.People.map D.Person.cells))), (.p (.sl false 3 (c.Calendars.map D.Calendar.cells))), (.p (.sl false 3 (c.Schedules.map D.Schedule.cells)))]), (.agg [(vI x.Kind), (vI x.A), (vI x.B), (vI x.From), (vI x.To)])] [] (vI 0) [] := by
 refine Spec.intro Tryz.func114 rfl (by kernel_rfl) ?_
 intro Γ hGn hGk
 replace hGn : Γ.n = 83 := hGn
 replace hGk : Γ.names = [] := hGk
 let a'1 : AV := (.p (.sl false 6 (c.People.map D.Person.cells)))
 refine AWp.weaken (mk [(0, (.agg [(.p (.sl false 3 (c.Zones.map D.Zone.cells))), a'1, (.p (.sl false 3 (c.Calendars.map D.Calendar.cells))), (.p (.sl false 3 (c.Schedules.map D.Schedule.cells)))])), (1, (.agg [(vI x.Kind), (vI x.A), (vI x.B), (vI x.From), (vI x.To)]))] []) (Weak.sub' hGk (by kernel_rfl)) ?_
 let a'2 : AO := (.box [(vI x.Kind), (vI x.A), (vI x.B), (vI x.From), (vI x.To)])
 refine AWp.s_reg hGn hGk (aa 3) (Man.aa _ _) [(2, (.ref 1002 0)), (3, (.ref 1003 0))] [(1002, (.box [(.p (.sl false 3 (c.Zones.map D.Zone.cells))), a'1, (.p (.sl false 3 (c.Calendars.map D.Calendar.cells))), (.p (.sl false 3 (c.Schedules.map D.Schedule.cells)))])), (1003, a'2)] (by kernel_rfl) (by kernel_rfl) ?_
 refine AWp.s_reg hGn hGk [.a, .a, .m (some 8) ⟨[(7, a'1)], [], (vI ((c.People.length : Nat) : Int)), [], []⟩, .a] ⟨StepOK.p rfl rfl rfl (OpOK.lenP (e := 75) rfl rfl (by kernel_rfl) rfl (by rw [List.length_map])), trivial⟩ [(3, (.ref 1003 0)), (5, (vI ((c.People.length : Nat) : Int)))] [(1003, a'2)] (by kernel_rfl) (by kernel_rfl) ?_
 refine AWp.seq ?_
 refine AWp.block ?_
 refine AWp.s_reg hGn hGk [.a, .a, .m (some 12) ⟨[(11, (vI x.Kind))], [], (vB true), [], []⟩, .a, .a] ⟨StepOK.p rfl rfl rfl (OpOK.call rfl (by kernel_rfl) rfl (by have hq := (res_in x.Kind (0 : Int) (2 : Int)); rw [(inB_true (by omega))] at hq; exact hq) (by kernel_rfl)), trivial⟩ [(3, (.ref 1003 0)), (5, (vI ((c.People.length : Nat) : Int))), (9, (vB false))] [(1003, a'2)] (by kernel_rfl) (by kernel_rfl) ?_
 refine AWp.cond_false rfl ?_
 refine AWp.seq ?_
 refine AWp.s_reg hGn hGk [.a, .a, .a, .m (some 18) ⟨[(16, (vI x.A)), (17, (vI ((c.People.length : Nat) : Int)))], [], (vB true), [], []⟩, .a, .a, .a, .a, .a, .a, .a, .a, .a, .a, .a, .a, .a] ⟨StepOK.p rfl rfl rfl (OpOK.call rfl (by kernel_rfl) rfl (by have hq := (res_index x.A ((c.People.length : Nat) : Int)); rw [(inB_true (by omega))] at hq; exact hq) (by kernel_rfl)), trivial⟩ [(3, (.ref 1003 0)), (5, (vI ((c.People.length : Nat) : Int))), (14, (vB false))] [(1003, a'2)] (by kernel_rfl) (by kernel_rfl) ?_
 refine AWp.cond_false rfl ?_
 refine AWp.reg' hGn hGk [.a, .a, .m (some 33) ⟨[(32, (vI x.Kind))], [], (vB false), [], []⟩, .a, .a, .a, .a, .a, .a, .a, .a] ⟨StepOK.p rfl rfl rfl (OpOK.eqlI rfl rfl rfl (decide_eq_false (by omega))), trivial⟩ [(3, (.ref 1003 0)), (14, (vB false))] [(1003, a'2)] (by kernel_rfl) (by kernel_rfl) ?_
 refine nextQ_normal ?_
 refine AWp.cond_false rfl ?_
 refine AWp.s_reg hGn hGk [.a, .a, .m (some 44) ⟨[(43, (vI x.Kind))], [], (vB true), [], []⟩, .a, .a, .a, .m (some 48) ⟨[(47, (vI x.B)), (45, (vB true))], [], (vB false), [], []⟩, .a, .a] ⟨StepOK.p rfl rfl rfl (OpOK.neqI rfl rfl rfl (decide_eq_true (by omega))),
  StepOK.g rfl rfl rfl rfl rfl (by simp) (OpOK.neqI rfl rfl rfl (decide_eq_false (by omega))), trivial⟩ [(3, (.ref 1003 0)), (41, (vB false))] [(1003, a'2)] (by kernel_rfl) (by kernel_rfl) ?_
 refine AWp.cond_false rfl ?_
 refine AWp.s_reg hGn hGk [.a, .a, .m (some 53) ⟨[(52, (vI x.Kind))], [], (vB false), [], []⟩, .a, .a, .a, .a, .a, .a, .a, .a] ⟨StepOK.p rfl rfl rfl (OpOK.eqlI rfl rfl rfl (decide_eq_false (by omega))), trivial⟩ [(3, (.ref 1003 0)), (50, (vB false))] [(1003, a'2)] (by kernel_rfl) (by kernel_rfl) ?_
 refine AWp.cond_false rfl ?_
 refine AWp.s_reg hGn hGk [.a, .a, .m (some 64) ⟨[(63, (vI x.From))], [], (vB false), [], []⟩, .a, .a, .a, .m (some 68) ⟨[(67, (vI x.To)), (65, (vB false))], [], (vB false), [], []⟩, .a, .a, .a, .a, .m (some 73) ⟨[(72, (vI x.To)), (70, (vB false))], [], (vI (x.To / 86400)), [], []⟩, .m (some 74) ⟨[(73, (vI (x.To / 86400))), (70, (vB false))], [], (vB true), [], []⟩, .a, .a, .a] ⟨StepOK.p rfl rfl rfl (OpOK.lss rfl rfl rfl (decide_eq_false (by omega))),
  StepOK.g rfl rfl rfl rfl rfl (by simp) (OpOK.lss rfl rfl rfl (decide_eq_false (by omega))),
  StepOK.g rfl rfl rfl rfl rfl (by simp) (OpOK.quo rfl rfl rfl (by omega) (IntWalk.i64_quo _ _ ⟨by omega, by omega, by omega⟩)),
  StepOK.g rfl rfl rfl rfl rfl (by simp) (OpOK.call rfl (by kernel_rfl) rfl (res_day (x.To / 86400) (by omega)) (by kernel_rfl)), trivial⟩ [(3, (.ref 1003 0)), (61, (vB false))] [(1003, a'2)] (by kernel_rfl) (by kernel_rfl) ?_
 refine AWp.cond_false rfl ?_
 refine AWp.s_reg hGn hGk [.a, .a, .a, .a, .m (some 82) ⟨[(79, (vI x.From)), (81, (vI x.To))], [], (vB false), [], []⟩, .a] ⟨StepOK.p rfl rfl rfl (OpOK.geq rfl rfl rfl (decide_eq_false (by omega))), trivial⟩ [(77, (vB false))] [] (by kernel_rfl) (by kernel_rfl) ?_
 refine AWp.cond_false rfl ?_
 refine AWp.skip ?_
 refine blockQ_normal ?_
 refine nextQ_normal ?_
 refine AWp.s_reg hGn hGk (aa 1) (Man.aa _ _) [(4, (vI 0))] [] (by kernel_rfl) (by kernel_rfl) ?_
 refine AWp.ret ?_
 refine fin_of (.inr rfl) (v := (vI 0)) (Res.tmp rfl rfl) (h' := []) rfl rfl ?_
 exact ⟨rfl, rfl⟩
theorem res_edit1 (c : D.Config) (x : D.Edit) (hk : x.Kind = 1) (ha : 0 ≤ x.A ∧ x.A < 4) (hb : x.B = 0) (ht : 0 ≤ x.From ∧ x.From < x.To ∧ x.To < 2592000) (hp4 : c.People.length = 4) :
    SpecIs Tryz.prog 114 [(.agg [(.p (.sl false 3 (c.Zones.map D.Zone.cells))), (.p (.sl false 6 (c.People.map D.Person.cells))), (.p (.sl false 3 (c.Calendars.map D.Calendar.cells))), (.p (.sl false 3 (c.Schedules.map D.Schedule.cells)))]), (.agg [(vI x.Kind), (vI x.A), (vI x.B), (vI x.From), (vI x.To)])] [] (vI 0) [] := by
 refine Spec.intro Tryz.func114 rfl (by kernel_rfl) ?_
 intro Γ hGn hGk
 replace hGn : Γ.n = 83 := hGn
 replace hGk : Γ.names = [] := hGk
 let a'1 : AV := (.p (.sl false 6 (c.People.map D.Person.cells)))
 refine AWp.weaken (mk [(0, (.agg [(.p (.sl false 3 (c.Zones.map D.Zone.cells))), a'1, (.p (.sl false 3 (c.Calendars.map D.Calendar.cells))), (.p (.sl false 3 (c.Schedules.map D.Schedule.cells)))])), (1, (.agg [(vI x.Kind), (vI x.A), (vI x.B), (vI x.From), (vI x.To)]))] []) (Weak.sub' hGk (by kernel_rfl)) ?_
 let a'2 : AO := (.box [(vI x.Kind), (vI x.A), (vI x.B), (vI x.From), (vI x.To)])
 refine AWp.s_reg hGn hGk (aa 3) (Man.aa _ _) [(2, (.ref 1002 0)), (3, (.ref 1003 0))] [(1002, (.box [(.p (.sl false 3 (c.Zones.map D.Zone.cells))), a'1, (.p (.sl false 3 (c.Calendars.map D.Calendar.cells))), (.p (.sl false 3 (c.Schedules.map D.Schedule.cells)))])), (1003, a'2)] (by kernel_rfl) (by kernel_rfl) ?_
 refine AWp.s_reg hGn hGk [.a, .a, .m (some 8) ⟨[(7, a'1)], [], (vI ((c.People.length : Nat) : Int)), [], []⟩, .a] ⟨StepOK.p rfl rfl rfl (OpOK.lenP (e := 75) rfl rfl (by kernel_rfl) rfl (by rw [List.length_map])), trivial⟩ [(3, (.ref 1003 0)), (5, (vI ((c.People.length : Nat) : Int)))] [(1003, a'2)] (by kernel_rfl) (by kernel_rfl) ?_
 refine AWp.seq ?_
 refine AWp.block ?_
 refine AWp.s_reg hGn hGk [.a, .a, .m (some 12) ⟨[(11, (vI x.Kind))], [], (vB true), [], []⟩, .a, .a] ⟨StepOK.p rfl rfl rfl (OpOK.call rfl (by kernel_rfl) rfl (by have hq := (res_in x.Kind (0 : Int) (2 : Int)); rw [(inB_true (by omega))] at hq; exact hq) (by kernel_rfl)), trivial⟩ [(3, (.ref 1003 0)), (5, (vI ((c.People.length : Nat) : Int))), (9, (vB false))] [(1003, a'2)] (by kernel_rfl) (by kernel_rfl) ?_
 refine AWp.cond_false rfl ?_
 refine AWp.seq ?_
 refine AWp.s_reg hGn hGk [.a, .a, .a, .m (some 18) ⟨[(16, (vI x.A)), (17, (vI ((c.People.length : Nat) : Int)))], [], (vB true), [], []⟩, .a, .a, .a, .a, .a, .a, .a, .a, .a, .a, .a, .a, .a] ⟨StepOK.p rfl rfl rfl (OpOK.call rfl (by kernel_rfl) rfl (by have hq := (res_index x.A ((c.People.length : Nat) : Int)); rw [(inB_true (by omega))] at hq; exact hq) (by kernel_rfl)), trivial⟩ [(3, (.ref 1003 0)), (5, (vI ((c.People.length : Nat) : Int))), (14, (vB false))] [(1003, a'2)] (by kernel_rfl) (by kernel_rfl) ?_
 refine AWp.cond_false rfl ?_
 refine AWp.reg' hGn hGk [.a, .a, .m (some 33) ⟨[(32, (vI x.Kind))], [], (vB false), [], []⟩, .a, .a, .a, .a, .a, .a, .a, .a] ⟨StepOK.p rfl rfl rfl (OpOK.eqlI rfl rfl rfl (decide_eq_false (by omega))), trivial⟩ [(3, (.ref 1003 0)), (14, (vB false))] [(1003, a'2)] (by kernel_rfl) (by kernel_rfl) ?_
 refine nextQ_normal ?_
 refine AWp.cond_false rfl ?_
 refine AWp.s_reg hGn hGk [.a, .a, .m (some 44) ⟨[(43, (vI x.Kind))], [], (vB true), [], []⟩, .a, .a, .a, .m (some 48) ⟨[(47, (vI x.B)), (45, (vB true))], [], (vB false), [], []⟩, .a, .a] ⟨StepOK.p rfl rfl rfl (OpOK.neqI rfl rfl rfl (decide_eq_true (by omega))),
  StepOK.g rfl rfl rfl rfl rfl (by simp) (OpOK.neqI rfl rfl rfl (decide_eq_false (by omega))), trivial⟩ [(3, (.ref 1003 0)), (41, (vB false))] [(1003, a'2)] (by kernel_rfl) (by kernel_rfl) ?_
 refine AWp.cond_false rfl ?_
 refine AWp.s_reg hGn hGk [.a, .a, .m (some 53) ⟨[(52, (vI x.Kind))], [], (vB false), [], []⟩, .a, .a, .a, .a, .a, .a, .a, .a] ⟨StepOK.p rfl rfl rfl (OpOK.eqlI rfl rfl rfl (decide_eq_false (by omega))), trivial⟩ [(3, (.ref 1003 0)), (50, (vB false))] [(1003, a'2)] (by kernel_rfl) (by kernel_rfl) ?_
 refine AWp.cond_false rfl ?_
 refine AWp.s_reg hGn hGk [.a, .a, .m (some 64) ⟨[(63, (vI x.From))], [], (vB false), [], []⟩, .a, .a, .a, .m (some 68) ⟨[(67, (vI x.To)), (65, (vB false))], [], (vB false), [], []⟩, .a, .a, .a, .a, .m (some 73) ⟨[(72, (vI x.To)), (70, (vB false))], [], (vI (x.To / 86400)), [], []⟩, .m (some 74) ⟨[(73, (vI (x.To / 86400))), (70, (vB false))], [], (vB true), [], []⟩, .a, .a, .a] ⟨StepOK.p rfl rfl rfl (OpOK.lss rfl rfl rfl (decide_eq_false (by omega))),
  StepOK.g rfl rfl rfl rfl rfl (by simp) (OpOK.lss rfl rfl rfl (decide_eq_false (by omega))),
  StepOK.g rfl rfl rfl rfl rfl (by simp) (OpOK.quo rfl rfl rfl (by omega) (IntWalk.i64_quo _ _ ⟨by omega, by omega, by omega⟩)),
  StepOK.g rfl rfl rfl rfl rfl (by simp) (OpOK.call rfl (by kernel_rfl) rfl (res_day (x.To / 86400) (by omega)) (by kernel_rfl)), trivial⟩ [(3, (.ref 1003 0)), (61, (vB false))] [(1003, a'2)] (by kernel_rfl) (by kernel_rfl) ?_
 refine AWp.cond_false rfl ?_
 refine AWp.s_reg hGn hGk [.a, .a, .a, .a, .m (some 82) ⟨[(79, (vI x.From)), (81, (vI x.To))], [], (vB false), [], []⟩, .a] ⟨StepOK.p rfl rfl rfl (OpOK.geq rfl rfl rfl (decide_eq_false (by omega))), trivial⟩ [(77, (vB false))] [] (by kernel_rfl) (by kernel_rfl) ?_
 refine AWp.cond_false rfl ?_
 refine AWp.skip ?_
 refine blockQ_normal ?_
 refine nextQ_normal ?_
 refine AWp.s_reg hGn hGk (aa 1) (Man.aa _ _) [(4, (vI 0))] [] (by kernel_rfl) (by kernel_rfl) ?_
 refine AWp.ret ?_
 refine fin_of (.inr rfl) (v := (vI 0)) (Res.tmp rfl rfl) (h' := []) rfl rfl ?_
 exact ⟨rfl, rfl⟩
theorem res_editn (c : D.Config) (x : D.Edit) (hk : x.Kind = 1) (ha : x.A = -1) (hb : x.B = 0) (ht : 0 ≤ x.From ∧ x.From < x.To ∧ x.To < 2592000) (hp4 : c.People.length = 4) :
    SpecIs Tryz.prog 114 [(.agg [(.p (.sl false 3 (c.Zones.map D.Zone.cells))), (.p (.sl false 6 (c.People.map D.Person.cells))), (.p (.sl false 3 (c.Calendars.map D.Calendar.cells))), (.p (.sl false 3 (c.Schedules.map D.Schedule.cells)))]), (.agg [(vI x.Kind), (vI x.A), (vI x.B), (vI x.From), (vI x.To)])] [] (vI 0) [] := by
 refine Spec.intro Tryz.func114 rfl (by kernel_rfl) ?_
 intro Γ hGn hGk
 replace hGn : Γ.n = 83 := hGn
 replace hGk : Γ.names = [] := hGk
 let a'1 : AV := (.p (.sl false 6 (c.People.map D.Person.cells)))
 refine AWp.weaken (mk [(0, (.agg [(.p (.sl false 3 (c.Zones.map D.Zone.cells))), a'1, (.p (.sl false 3 (c.Calendars.map D.Calendar.cells))), (.p (.sl false 3 (c.Schedules.map D.Schedule.cells)))])), (1, (.agg [(vI x.Kind), (vI x.A), (vI x.B), (vI x.From), (vI x.To)]))] []) (Weak.sub' hGk (by kernel_rfl)) ?_
 let a'2 : AO := (.box [(vI x.Kind), (vI x.A), (vI x.B), (vI x.From), (vI x.To)])
 refine AWp.s_reg hGn hGk (aa 3) (Man.aa _ _) [(2, (.ref 1002 0)), (3, (.ref 1003 0))] [(1002, (.box [(.p (.sl false 3 (c.Zones.map D.Zone.cells))), a'1, (.p (.sl false 3 (c.Calendars.map D.Calendar.cells))), (.p (.sl false 3 (c.Schedules.map D.Schedule.cells)))])), (1003, a'2)] (by kernel_rfl) (by kernel_rfl) ?_
 refine AWp.s_reg hGn hGk [.a, .a, .m (some 8) ⟨[(7, a'1)], [], (vI ((c.People.length : Nat) : Int)), [], []⟩, .a] ⟨StepOK.p rfl rfl rfl (OpOK.lenP (e := 75) rfl rfl (by kernel_rfl) rfl (by rw [List.length_map])), trivial⟩ [(3, (.ref 1003 0)), (5, (vI ((c.People.length : Nat) : Int)))] [(1003, a'2)] (by kernel_rfl) (by kernel_rfl) ?_
 refine AWp.seq ?_
 refine AWp.block ?_
 refine AWp.s_reg hGn hGk [.a, .a, .m (some 12) ⟨[(11, (vI x.Kind))], [], (vB true), [], []⟩, .a, .a] ⟨StepOK.p rfl rfl rfl (OpOK.call rfl (by kernel_rfl) rfl (by have hq := (res_in x.Kind (0 : Int) (2 : Int)); rw [(inB_true (by omega))] at hq; exact hq) (by kernel_rfl)), trivial⟩ [(3, (.ref 1003 0)), (5, (vI ((c.People.length : Nat) : Int))), (9, (vB false))] [(1003, a'2)] (by kernel_rfl) (by kernel_rfl) ?_
 refine AWp.cond_false rfl ?_
 refine AWp.seq ?_
 refine AWp.s_reg hGn hGk [.a, .a, .a, .m (some 18) ⟨[(16, (vI x.A)), (17, (vI ((c.People.length : Nat) : Int)))], [], (vB false), [], []⟩, .a, .a, .a, .a, .m (some 23) ⟨[(22, (vI x.Kind)), (20, (vB true))], [], (vB true), [], []⟩, .a, .a, .a, .m (some 27) ⟨[(26, (vI x.A)), (24, (vB true))], [], (vB true), [], []⟩, .a, .a, .a, .a] ⟨StepOK.p rfl rfl rfl (OpOK.call rfl (by kernel_rfl) rfl (by have hq := (res_index x.A ((c.People.length : Nat) : Int)); rw [(inB_no (by omega))] at hq; exact hq) (by kernel_rfl)),
  StepOK.g rfl rfl rfl rfl rfl (by simp) (OpOK.eqlI rfl rfl rfl (decide_eq_true (by omega))),
  StepOK.g rfl rfl rfl rfl rfl (by simp) (OpOK.eqlI rfl rfl rfl (decide_eq_true (by omega))), trivial⟩ [(3, (.ref 1003 0)), (5, (vI ((c.People.length : Nat) : Int))), (14, (vB false))] [(1003, a'2)] (by kernel_rfl) (by kernel_rfl) ?_
 refine AWp.cond_false rfl ?_
 refine AWp.reg' hGn hGk [.a, .a, .m (some 33) ⟨[(32, (vI x.Kind))], [], (vB false), [], []⟩, .a, .a, .a, .a, .a, .a, .a, .a] ⟨StepOK.p rfl rfl rfl (OpOK.eqlI rfl rfl rfl (decide_eq_false (by omega))), trivial⟩ [(3, (.ref 1003 0)), (14, (vB false))] [(1003, a'2)] (by kernel_rfl) (by kernel_rfl) ?_
 refine nextQ_normal ?_
 refine AWp.cond_false rfl ?_
 refine AWp.s_reg hGn hGk [.a, .a, .m (some 44) ⟨[(43, (vI x.Kind))], [], (vB true), [], []⟩, .a, .a, .a, .m (some 48) ⟨[(47, (vI x.B)), (45, (vB true))], [], (vB false), [], []⟩, .a, .a] ⟨StepOK.p rfl rfl rfl (OpOK.neqI rfl rfl rfl (decide_eq_true (by omega))),
  StepOK.g rfl rfl rfl rfl rfl (by simp) (OpOK.neqI rfl rfl rfl (decide_eq_false (by omega))), trivial⟩ [(3, (.ref 1003 0)), (41, (vB false))] [(1003, a'2)] (by kernel_rfl) (by kernel_rfl) ?_
 refine AWp.cond_false rfl ?_
 refine AWp.s_reg hGn hGk [.a, .a, .m (some 53) ⟨[(52, (vI x.Kind))], [], (vB false), [], []⟩, .a, .a, .a, .a, .a, .a, .a, .a] ⟨StepOK.p rfl rfl rfl (OpOK.eqlI rfl rfl rfl (decide_eq_false (by omega))), trivial⟩ [(3, (.ref 1003 0)), (50, (vB false))] [(1003, a'2)] (by kernel_rfl) (by kernel_rfl) ?_
 refine AWp.cond_false rfl ?_
 refine AWp.s_reg hGn hGk [.a, .a, .m (some 64) ⟨[(63, (vI x.From))], [], (vB false), [], []⟩, .a, .a, .a, .m (some 68) ⟨[(67, (vI x.To)), (65, (vB false))], [], (vB false), [], []⟩, .a, .a, .a, .a, .m (some 73) ⟨[(72, (vI x.To)), (70, (vB false))], [], (vI (x.To / 86400)), [], []⟩, .m (some 74) ⟨[(73, (vI (x.To / 86400))), (70, (vB false))], [], (vB true), [], []⟩, .a, .a, .a] ⟨StepOK.p rfl rfl rfl (OpOK.lss rfl rfl rfl (decide_eq_false (by omega))),
  StepOK.g rfl rfl rfl rfl rfl (by simp) (OpOK.lss rfl rfl rfl (decide_eq_false (by omega))),
  StepOK.g rfl rfl rfl rfl rfl (by simp) (OpOK.quo rfl rfl rfl (by omega) (IntWalk.i64_quo _ _ ⟨by omega, by omega, by omega⟩)),
  StepOK.g rfl rfl rfl rfl rfl (by simp) (OpOK.call rfl (by kernel_rfl) rfl (res_day (x.To / 86400) (by omega)) (by kernel_rfl)), trivial⟩ [(3, (.ref 1003 0)), (61, (vB false))] [(1003, a'2)] (by kernel_rfl) (by kernel_rfl) ?_
 refine AWp.cond_false rfl ?_
 refine AWp.s_reg hGn hGk [.a, .a, .a, .a, .m (some 82) ⟨[(79, (vI x.From)), (81, (vI x.To))], [], (vB false), [], []⟩, .a] ⟨StepOK.p rfl rfl rfl (OpOK.geq rfl rfl rfl (decide_eq_false (by omega))), trivial⟩ [(77, (vB false))] [] (by kernel_rfl) (by kernel_rfl) ?_
 refine AWp.cond_false rfl ?_
 refine AWp.skip ?_
 refine blockQ_normal ?_
 refine nextQ_normal ?_
 refine AWp.s_reg hGn hGk (aa 1) (Man.aa _ _) [(4, (vI 0))] [] (by kernel_rfl) (by kernel_rfl) ?_
 refine AWp.ret ?_
 refine fin_of (.inr rfl) (v := (vI 0)) (Res.tmp rfl rfl) (h' := []) rfl rfl ?_
 exact ⟨rfl, rfl⟩
theorem res_edit2 (c : D.Config) (x : D.Edit) (hk : x.Kind = 2) (ha : 0 ≤ x.A ∧ x.A < 4) (hb : 0 ≤ x.B ∧ x.B < 4 ∧ x.A ≠ x.B) (ht : 0 ≤ x.From ∧ x.From < x.To ∧ x.To < 2592000) (hp4 : c.People.length = 4) :
    SpecIs Tryz.prog 114 [(.agg [(.p (.sl false 3 (c.Zones.map D.Zone.cells))), (.p (.sl false 6 (c.People.map D.Person.cells))), (.p (.sl false 3 (c.Calendars.map D.Calendar.cells))), (.p (.sl false 3 (c.Schedules.map D.Schedule.cells)))]), (.agg [(vI x.Kind), (vI x.A), (vI x.B), (vI x.From), (vI x.To)])] [] (vI 0) [] := by
 refine Spec.intro Tryz.func114 rfl (by kernel_rfl) ?_
 intro Γ hGn hGk
 replace hGn : Γ.n = 83 := hGn
 replace hGk : Γ.names = [] := hGk
 let a'1 : AV := (.p (.sl false 6 (c.People.map D.Person.cells)))
 refine AWp.weaken (mk [(0, (.agg [(.p (.sl false 3 (c.Zones.map D.Zone.cells))), a'1, (.p (.sl false 3 (c.Calendars.map D.Calendar.cells))), (.p (.sl false 3 (c.Schedules.map D.Schedule.cells)))])), (1, (.agg [(vI x.Kind), (vI x.A), (vI x.B), (vI x.From), (vI x.To)]))] []) (Weak.sub' hGk (by kernel_rfl)) ?_
 let a'2 : AO := (.box [(vI x.Kind), (vI x.A), (vI x.B), (vI x.From), (vI x.To)])
 refine AWp.s_reg hGn hGk (aa 3) (Man.aa _ _) [(2, (.ref 1002 0)), (3, (.ref 1003 0))] [(1002, (.box [(.p (.sl false 3 (c.Zones.map D.Zone.cells))), a'1, (.p (.sl false 3 (c.Calendars.map D.Calendar.cells))), (.p (.sl false 3 (c.Schedules.map D.Schedule.cells)))])), (1003, a'2)] (by kernel_rfl) (by kernel_rfl) ?_
 refine AWp.s_reg hGn hGk [.a, .a, .m (some 8) ⟨[(7, a'1)], [], (vI ((c.People.length : Nat) : Int)), [], []⟩, .a] ⟨StepOK.p rfl rfl rfl (OpOK.lenP (e := 75) rfl rfl (by kernel_rfl) rfl (by rw [List.length_map])), trivial⟩ [(3, (.ref 1003 0)), (5, (vI ((c.People.length : Nat) : Int)))] [(1003, a'2)] (by kernel_rfl) (by kernel_rfl) ?_
 refine AWp.seq ?_
 refine AWp.block ?_
 refine AWp.s_reg hGn hGk [.a, .a, .m (some 12) ⟨[(11, (vI x.Kind))], [], (vB true), [], []⟩, .a, .a] ⟨StepOK.p rfl rfl rfl (OpOK.call rfl (by kernel_rfl) rfl (by have hq := (res_in x.Kind (0 : Int) (2 : Int)); rw [(inB_true (by omega))] at hq; exact hq) (by kernel_rfl)), trivial⟩ [(3, (.ref 1003 0)), (5, (vI ((c.People.length : Nat) : Int))), (9, (vB false))] [(1003, a'2)] (by kernel_rfl) (by kernel_rfl) ?_
 refine AWp.cond_false rfl ?_
 refine AWp.seq ?_
 refine AWp.s_reg hGn hGk [.a, .a, .a, .m (some 18) ⟨[(16, (vI x.A)), (17, (vI ((c.People.length : Nat) : Int)))], [], (vB true), [], []⟩, .a, .a, .a, .a, .a, .a, .a, .a, .a, .a, .a, .a, .a] ⟨StepOK.p rfl rfl rfl (OpOK.call rfl (by kernel_rfl) rfl (by have hq := (res_index x.A ((c.People.length : Nat) : Int)); rw [(inB_true (by omega))] at hq; exact hq) (by kernel_rfl)), trivial⟩ [(3, (.ref 1003 0)), (5, (vI ((c.People.length : Nat) : Int))), (14, (vB false))] [(1003, a'2)] (by kernel_rfl) (by kernel_rfl) ?_
 refine AWp.cond_false rfl ?_
 refine AWp.reg' hGn hGk [.a, .a, .m (some 33) ⟨[(32, (vI x.Kind))], [], (vB true), [], []⟩, .a, .a, .a, .a, .m (some 38) ⟨[(36, (vI x.B)), (37, (vI ((c.People.length : Nat) : Int))), (34, (vB true))], [], (vB true), [], []⟩, .a, .a, .a] ⟨StepOK.p rfl rfl rfl (OpOK.eqlI rfl rfl rfl (decide_eq_true (by omega))),
  StepOK.g rfl rfl rfl rfl rfl (by simp) (OpOK.call rfl (by kernel_rfl) rfl (by have hq := (res_index x.B ((c.People.length : Nat) : Int)); rw [(inB_true (by omega))] at hq; exact hq) (by kernel_rfl)), trivial⟩ [(3, (.ref 1003 0)), (14, (vB false))] [(1003, a'2)] (by kernel_rfl) (by kernel_rfl) ?_
 refine nextQ_normal ?_
 refine AWp.cond_false rfl ?_
 refine AWp.s_reg hGn hGk [.a, .a, .m (some 44) ⟨[(43, (vI x.Kind))], [], (vB false), [], []⟩, .a, .a, .a, .a, .a, .a] ⟨StepOK.p rfl rfl rfl (OpOK.neqI rfl rfl rfl (decide_eq_false (by omega))), trivial⟩ [(3, (.ref 1003 0)), (41, (vB false))] [(1003, a'2)] (by kernel_rfl) (by kernel_rfl) ?_
 refine AWp.cond_false rfl ?_
 refine AWp.s_reg hGn hGk [.a, .a, .m (some 53) ⟨[(52, (vI x.Kind))], [], (vB true), [], []⟩, .a, .a, .a, .a, .a, .m (some 59) ⟨[(56, (vI x.A)), (58, (vI x.B)), (54, (vB true))], [], (vB false), [], []⟩, .a, .a] ⟨StepOK.p rfl rfl rfl (OpOK.eqlI rfl rfl rfl (decide_eq_true (by omega))),
  StepOK.g rfl rfl rfl rfl rfl (by simp) (OpOK.eqlI rfl rfl rfl (decide_eq_false (by omega))), trivial⟩ [(3, (.ref 1003 0)), (50, (vB false))] [(1003, a'2)] (by kernel_rfl) (by kernel_rfl) ?_
 refine AWp.cond_false rfl ?_
 refine AWp.s_reg hGn hGk [.a, .a, .m (some 64) ⟨[(63, (vI x.From))], [], (vB false), [], []⟩, .a, .a, .a, .m (some 68) ⟨[(67, (vI x.To)), (65, (vB false))], [], (vB false), [], []⟩, .a, .a, .a, .a, .m (some 73) ⟨[(72, (vI x.To)), (70, (vB false))], [], (vI (x.To / 86400)), [], []⟩, .m (some 74) ⟨[(73, (vI (x.To / 86400))), (70, (vB false))], [], (vB true), [], []⟩, .a, .a, .a] ⟨StepOK.p rfl rfl rfl (OpOK.lss rfl rfl rfl (decide_eq_false (by omega))),
  StepOK.g rfl rfl rfl rfl rfl (by simp) (OpOK.lss rfl rfl rfl (decide_eq_false (by omega))),
  StepOK.g rfl rfl rfl rfl rfl (by simp) (OpOK.quo rfl rfl rfl (by omega) (IntWalk.i64_quo _ _ ⟨by omega, by omega, by omega⟩)),
  StepOK.g rfl rfl rfl rfl rfl (by simp) (OpOK.call rfl (by kernel_rfl) rfl (res_day (x.To / 86400) (by omega)) (by kernel_rfl)), trivial⟩ [(3, (.ref 1003 0)), (61, (vB false))] [(1003, a'2)] (by kernel_rfl) (by kernel_rfl) ?_
 refine AWp.cond_false rfl ?_
 refine AWp.s_reg hGn hGk [.a, .a, .a, .a, .m (some 82) ⟨[(79, (vI x.From)), (81, (vI x.To))], [], (vB false), [], []⟩, .a] ⟨StepOK.p rfl rfl rfl (OpOK.geq rfl rfl rfl (decide_eq_false (by omega))), trivial⟩ [(77, (vB false))] [] (by kernel_rfl) (by kernel_rfl) ?_
 refine AWp.cond_false rfl ?_
 refine AWp.skip ?_
 refine blockQ_normal ?_
 refine nextQ_normal ?_
 refine AWp.s_reg hGn hGk (aa 1) (Man.aa _ _) [(4, (vI 0))] [] (by kernel_rfl) (by kernel_rfl) ?_
 refine AWp.ret ?_
 refine fin_of (.inr rfl) (v := (vI 0)) (Res.tmp rfl rfl) (h' := []) rfl rfl ?_
 exact ⟨rfl, rfl⟩
theorem res_edit (c : D.Config) (x : D.Edit) (h : EditOK 4 x) (hp4 : c.People.length = 4) : SpecIs Tryz.prog 114 [(.agg [(.p (.sl false 3 (c.Zones.map D.Zone.cells))), (.p (.sl false 6 (c.People.map D.Person.cells))), (.p (.sl false 3 (c.Calendars.map D.Calendar.cells))), (.p (.sl false 3 (c.Schedules.map D.Schedule.cells)))]), (.agg [(vI x.Kind), (vI x.A), (vI x.B), (vI x.From), (vI x.To)])] [] (vI 0) [] := by
  obtain ⟨hk, ha, hb, hb0, ht⟩ := h
  rcases (show x.Kind = 0 ∨ x.Kind = 1 ∨ x.Kind = 2 by omega) with h0 | h0 | h0
  · exact res_edit0 c x h0 (by omega) (hb0 (by omega)) ht hp4
  · rcases ha with ha | ha
    · exact res_edit1 c x h0 (by omega) (hb0 (by omega)) ht hp4
    · exact res_editn c x h0 ha.2 (hb0 (by omega)) ht hp4
  · exact res_edit2 c x h0 (by omega) (hb h0) ht hp4
theorem res_mem (c : D.Config) (m : Int) (hm : 0 ≤ m ∧ m < 4) (hp4 : c.People.length = 4) :
    SpecIs Tryz.prog 145 [(vI m), (.ref 1002 0)] [(1002, (.box [(.p (.sl false 3 (c.Zones.map D.Zone.cells))), (.p (.sl false 6 (c.People.map D.Person.cells))), (.p (.sl false 3 (c.Calendars.map D.Calendar.cells))), (.p (.sl false 3 (c.Schedules.map D.Schedule.cells)))]))] (vB false) [(1002, (.box [(.p (.sl false 3 (c.Zones.map D.Zone.cells))), (.p (.sl false 6 (c.People.map D.Person.cells))), (.p (.sl false 3 (c.Calendars.map D.Calendar.cells))), (.p (.sl false 3 (c.Schedules.map D.Schedule.cells)))]))] := by
 refine Spec.intro Tryz.func145 rfl (by kernel_rfl) ?_
 intro Γ hGn hGk
 replace hGn : Γ.n = 10 := hGn
 replace hGk : Γ.names = [1002] := hGk
 let a'1 : AV := (.p (.sl false 3 (c.Zones.map D.Zone.cells)))
 let a'2 : AV := (.p (.sl false 6 (c.People.map D.Person.cells)))
 let a'3 : AV := (.p (.sl false 3 (c.Calendars.map D.Calendar.cells)))
 let a'4 : AV := (.p (.sl false 3 (c.Schedules.map D.Schedule.cells)))
 let a'5 : AO := (.box [a'1, a'2, a'3, a'4])
 refine AWp.weaken (mk [(0, (vI m)), (1, (.ref 1002 0))] [(1002, a'5)]) (Weak.sub' hGk (by kernel_rfl)) ?_
 refine AWp.s_reg hGn hGk (aa 1) (Man.aa _ _) [(0, (vI m)), (1, (.ref 1002 0))] [(1002, a'5)] (by kernel_rfl) (by kernel_rfl) ?_
 refine AWp.s_reg hGn hGk [.a, .a, .a, .m (some 7) ⟨[(6, a'2)], [], (vI ((c.People.length : Nat) : Int)), [], []⟩, .m (some 8) ⟨[(4, (vI m)), (7, (vI ((c.People.length : Nat) : Int)))], [], (vB true), [], []⟩, .a, .a] ⟨StepOK.p rfl rfl rfl (OpOK.lenP (e := 75) rfl rfl (by kernel_rfl) rfl (by rw [List.length_map])),
  StepOK.p rfl rfl rfl (OpOK.call rfl (by kernel_rfl) rfl (by have hq := (res_index m ((c.People.length : Nat) : Int)); rw [(inB_true (by omega))] at hq; exact hq) (by kernel_rfl)), trivial⟩ [(3, (vB false))] [(1002, a'5)] (by kernel_rfl) (by kernel_rfl) ?_
 refine AWp.ret ?_
 refine fin_of (.inr rfl) (v := (vB false)) (Res.tmp rfl rfl) (h' := [(1002, (.box [(.p (.sl false 3 (c.Zones.map D.Zone.cells))), (.p (.sl false 6 (c.People.map D.Person.cells))), (.p (.sl false 3 (c.Calendars.map D.Calendar.cells))), (.p (.sl false 3 (c.Schedules.map D.Schedule.cells)))]))]) rfl rfl ?_
 exact ⟨rfl, rfl⟩
theorem res_midx (c : D.Config) (l : List Int) (hl : l.length ≤ 12) (hm : ∀ i, i < l.length → 0 ≤ nth l i ∧ nth l i < 4) (hp4 : c.People.length = 4) :
    SpecIs Tryz.prog 143 [(.p (.sl false 1 (l.map D.cInt))), (.clo (.func 145) [] [(.ref 1002 0)])] [(1002, (.box [(.p (.sl false 3 (c.Zones.map D.Zone.cells))), (.p (.sl false 6 (c.People.map D.Person.cells))), (.p (.sl false 3 (c.Calendars.map D.Calendar.cells))), (.p (.sl false 3 (c.Schedules.map D.Schedule.cells)))]))] (vI (-1)) [(1002, (.box [(.p (.sl false 3 (c.Zones.map D.Zone.cells))), (.p (.sl false 6 (c.People.map D.Person.cells))), (.p (.sl false 3 (c.Calendars.map D.Calendar.cells))), (.p (.sl false 3 (c.Schedules.map D.Schedule.cells)))]))] := by
 refine Spec.intro Tryz.func143 rfl (by kernel_rfl) ?_
 intro Γ hGn hGk
 replace hGn : Γ.n = 19 := hGn
 replace hGk : Γ.names = [1002] := hGk
 let a'1 : AV := (.clo (.func 145) [] [(.ref 1002 0)])
 let a'2 : AV := (.p (.sl false 3 (c.Zones.map D.Zone.cells)))
 let a'3 : AV := (.p (.sl false 6 (c.People.map D.Person.cells)))
 let a'4 : AV := (.p (.sl false 3 (c.Calendars.map D.Calendar.cells)))
 let a'5 : AV := (.p (.sl false 3 (c.Schedules.map D.Schedule.cells)))
 let a'6 : AO := (.box [a'2, a'3, a'4, a'5])
 refine AWp.weaken (mk [(0, (.p (.sl false 1 (l.map D.cInt)))), (1, a'1)] [(1002, a'6)]) (Weak.sub' hGk (by kernel_rfl)) ?_
 refine AWp.s_reg hGn hGk (aa 1) (Man.aa _ _) [(0, (.p (.sl false 1 (l.map D.cInt)))), (1, a'1)] [(1002, a'6)] (by kernel_rfl) (by kernel_rfl) ?_
 refine AWp.seq ?_
 refine AWp.s_reg hGn hGk [.a, .m (some 7) ⟨[(6, (.p (.sl false 1 (l.map D.cInt))))], [], (vI ((l.length : Nat) : Int)), [], []⟩, .a] ⟨StepOK.p rfl rfl rfl (OpOK.lenP (e := 3) rfl rfl (by kernel_rfl) rfl (by rw [List.length_map])), trivial⟩ [(0, (.p (.sl false 1 (l.map D.cInt)))), (1, a'1), (7, (vI ((l.length : Nat) : Int))), (8, (vI 0))] [(1002, a'6)] (by kernel_rfl) (by kernel_rfl) ?_
 refine AWp.block ?_
 refine AWp.loop (fun m s => ∃ i, s = (mk [(0, (.p (.sl false 1 (l.map D.cInt)))), (1, (.clo (.func 145) [] [(.ref 1002 0)])), (7, (vI ((l.length : Nat) : Int))), (8, (vI ((i : Nat) : Int)))] [(1002, (.box [(.p (.sl false 3 (c.Zones.map D.Zone.cells))), (.p (.sl false 6 (c.People.map D.Person.cells))), (.p (.sl false 3 (c.Calendars.map D.Calendar.cells))), (.p (.sl false 3 (c.Schedules.map D.Schedule.cells)))]))]) ∧ (i ≤ l.length) ∧ m = (l.length - i))
  ⟨_, 0, rfl, (by omega), rfl⟩ ?_
 rintro mm1 s ⟨i, rfl, hi, hmm1⟩
 refine AWp.s_reg hGn hGk (aa 1) (Man.aa _ _) [(0, (.p (.sl false 1 (l.map D.cInt)))), (1, a'1), (7, (vI ((l.length : Nat) : Int))), (8, (vI ((i : Nat) : Int))), (9, (vB (decide (((i : Nat) : Int) < ((l.length : Nat) : Int)))))] [(1002, a'6)] (by kernel_rfl) (by kernel_rfl) ?_
 refine AWp.seq ?_
 refine AWp.cond (decide (((i : Nat) : Int) < ((l.length : Nat) : Int))) rfl (fun hc2 => ?_) (fun hc2 => ?_)
 ·skip
  replace hc2 := of_decide_eq_true hc2
  refine AWp.skip ?_
  refine nextQ_normal ?_
  refine AWp.seq ?_
  refine AWp.block ?_
  refine AWp.s_reg hGn hGk (aa 2) (Man.aa _ _) [(0, (.p (.sl false 1 (l.map D.cInt)))), (1, a'1), (5, (vI ((i : Nat) : Int))), (7, (vI ((l.length : Nat) : Int))), (8, (vI ((i : Nat) : Int)))] [(1002, a'6)] (by kernel_rfl) (by kernel_rfl) ?_
  refine AWp.s_reg hGn hGk [.a, .a, .a, .m (some 14) ⟨[(12, (.p (.sl false 1 (l.map D.cInt)))), (13, (vI ((i : Nat) : Int)))], [], (.eptr [(pI (nth l i))]), [], []⟩, .a, .m (some 16) ⟨[(11, a'1), (15, (vI (nth l i)))], [(1002, a'6)], (vB false), [(1002, a'6)], []⟩] ⟨StepOK.p rfl rfl rfl (OpOK.indexP (e := 3) rfl (by kernel_rfl) (by kernel_rfl) rfl rfl rfl (map_nth (by omega))),
   StepOK.p rfl rfl rfl (OpOK.callClo rfl rfl (by kernel_rfl) rfl (res_mem c (nth l i) (hm _ (by omega)) hp4) (by kernel_rfl)), trivial⟩ [(0, (.p (.sl false 1 (l.map D.cInt)))), (1, a'1), (5, (vI ((i : Nat) : Int))), (7, (vI ((l.length : Nat) : Int))), (8, (vI ((i : Nat) : Int))), (16, (vB false))] [(1002, a'6)] (by kernel_rfl) (by kernel_rfl) ?_
  refine AWp.cond_false rfl ?_
  refine AWp.skip ?_
  refine blockQ_normal ?_
  refine nextQ_normal ?_
  refine AWp.reg' hGn hGk [.m (some 18) ⟨[(8, (vI ((i : Nat) : Int)))], [], (vI ((i + 1 : Nat) : Int)), [], []⟩, .a] ⟨StepOK.p rfl rfl rfl (OpOK.add rfl rfl rfl (by rw [IntWalk.i64_in _ ⟨by omega, by omega⟩]; omega)), trivial⟩ [(0, (.p (.sl false 1 (l.map D.cInt)))), (1, a'1), (7, (vI ((l.length : Nat) : Int))), (8, (vI ((i + 1 : Nat) : Int)))] [(1002, a'6)] (by kernel_rfl) (by kernel_rfl) ?_
  refine nextQ_normal ⟨_, ?_, (i + 1), rfl, (by omega), rfl⟩
  · omega
 ·skip
  replace hc2 := of_decide_eq_false hc2
  refine AWp.weaken (mk [] [(1002, a'6)]) (Weak.sub' hGk (by kernel_rfl)) ?_
  refine AWp.exit ?_
  refine nextQ_exit ?_
  refine nextQ_exit ?_
  refine blockQ_exit ?_
  refine nextQ_normal ?_
  refine AWp.s_reg hGn hGk (aa 1) (Man.aa _ _) [(4, (vI (-1)))] [(1002, a'6)] (by kernel_rfl) (by kernel_rfl) ?_
  refine AWp.ret ?_
  refine fin_of (.inr rfl) (v := (vI (-1))) (Res.tmp rfl rfl) (h' := [(1002, (.box [(.p (.sl false 3 (c.Zones.map D.Zone.cells))), (.p (.sl false 6 (c.People.map D.Person.cells))), (.p (.sl false 3 (c.Calendars.map D.Calendar.cells))), (.p (.sl false 3 (c.Schedules.map D.Schedule.cells)))]))]) rfl rfl ?_
  exact ⟨rfl, rfl⟩
theorem res_mcont (c : D.Config) (l : List Int) (hl : l.length ≤ 12) (hm : ∀ i, i < l.length → 0 ≤ nth l i ∧ nth l i < 4) (hp4 : c.People.length = 4) :
    SpecIs Tryz.prog 107 [(.p (.sl false 1 (l.map D.cInt))), (.clo (.func 145) [] [(.ref 1002 0)])] [(1002, (.box [(.p (.sl false 3 (c.Zones.map D.Zone.cells))), (.p (.sl false 6 (c.People.map D.Person.cells))), (.p (.sl false 3 (c.Calendars.map D.Calendar.cells))), (.p (.sl false 3 (c.Schedules.map D.Schedule.cells)))]))] (vB false) [(1002, (.box [(.p (.sl false 3 (c.Zones.map D.Zone.cells))), (.p (.sl false 6 (c.People.map D.Person.cells))), (.p (.sl false 3 (c.Calendars.map D.Calendar.cells))), (.p (.sl false 3 (c.Schedules.map D.Schedule.cells)))]))] := by
 refine Spec.intro Tryz.func107 rfl (by kernel_rfl) ?_
 intro Γ hGn hGk
 replace hGn : Γ.n = 9 := hGn
 replace hGk : Γ.names = [1002] := hGk
 let a'1 : AV := (.clo (.func 145) [] [(.ref 1002 0)])
 let a'2 : AV := (.p (.sl false 3 (c.Zones.map D.Zone.cells)))
 let a'3 : AV := (.p (.sl false 6 (c.People.map D.Person.cells)))
 let a'4 : AV := (.p (.sl false 3 (c.Calendars.map D.Calendar.cells)))
 let a'5 : AV := (.p (.sl false 3 (c.Schedules.map D.Schedule.cells)))
 let a'6 : AO := (.box [a'2, a'3, a'4, a'5])
 refine AWp.weaken (mk [(0, (.p (.sl false 1 (l.map D.cInt)))), (1, a'1)] [(1002, a'6)]) (Weak.sub' hGk (by kernel_rfl)) ?_
 refine AWp.s_reg hGn hGk (aa 1) (Man.aa _ _) [(0, (.p (.sl false 1 (l.map D.cInt)))), (1, a'1)] [(1002, a'6)] (by kernel_rfl) (by kernel_rfl) ?_
 refine AWp.s_reg hGn hGk [.a, .a, .m (some 7) ⟨[(5, (.p (.sl false 1 (l.map D.cInt)))), (6, a'1)], [(1002, a'6)], (vI (-1)), [(1002, a'6)], []⟩, .a, .a] ⟨StepOK.p rfl rfl rfl (OpOK.call rfl (by kernel_rfl) rfl (res_midx c l hl hm hp4) (by kernel_rfl)), trivial⟩ [(4, (vB false))] [(1002, a'6)] (by kernel_rfl) (by kernel_rfl) ?_
 refine AWp.ret ?_
 refine fin_of (.inr rfl) (v := (vB false)) (Res.tmp rfl rfl) (h' := [(1002, (.box [(.p (.sl false 3 (c.Zones.map D.Zone.cells))), (.p (.sl false 6 (c.People.map D.Person.cells))), (.p (.sl false 3 (c.Calendars.map D.Calendar.cells))), (.p (.sl false 3 (c.Schedules.map D.Schedule.cells)))]))]) rfl rfl ?_
 exact ⟨rfl, rfl⟩
theorem res_layer (c : D.Config) (l : D.Layer) (h : LayerOK 4 l) (hz1 : c.Zones.length = 1) (hp4 : c.People.length = 4) :
    SpecIs Tryz.prog 113 [(.agg [(.p (.sl false 3 (c.Zones.map D.Zone.cells))), (.p (.sl false 6 (c.People.map D.Person.cells))), (.p (.sl false 3 (c.Calendars.map D.Calendar.cells))), (.p (.sl false 3 (c.Schedules.map D.Schedule.cells)))]), (.agg [(vS l.Name), (vI l.Zone), (vI l.Start.Day), (vI l.Start.Second), (vI l.Unit), (vI l.Every), (.p (.sl false 1 (l.Members.map D.cInt))), (.p (.sl false 2 (l.Windows.map D.Window.cells))), (vI l.Calendar), (vI l.Mode)])] [] (vI 0) [] := by
 refine Spec.intro Tryz.func113 rfl (by kernel_rfl) ?_
 intro Γ hGn hGk
 replace hGn : Γ.n = 91 := hGn
 replace hGk : Γ.names = [] := hGk
 obtain ⟨hnm, hzo, hd, hsec, hun, hev, hle, hme, hwi, hca⟩ := h
 obtain ⟨hc1, hc2⟩ := hca
 have hw0 : windowsErr l.Windows = 0 := by rw [hwi]; exact windowsErr_nil
 let a'1 : AV := (.p (.sl false 3 (c.Zones.map D.Zone.cells)))
 let a'2 : AV := (.p (.sl false 6 (c.People.map D.Person.cells)))
 let a'3 : AV := (.p (.sl false 3 (c.Calendars.map D.Calendar.cells)))
 let a'4 : AV := (.p (.sl false 3 (c.Schedules.map D.Schedule.cells)))
 let a'5 : AV := (.p (.sl false 1 (l.Members.map D.cInt)))
 let a'6 : AV := (.p (.sl false 2 (l.Windows.map D.Window.cells)))
 refine AWp.weaken (mk [(0, (.agg [a'1, a'2, a'3, a'4])), (1, (.agg [(vS l.Name), (vI l.Zone), (vI l.Start.Day), (vI l.Start.Second), (vI l.Unit), (vI l.Every), a'5, a'6, (vI l.Calendar), (vI l.Mode)]))] []) (Weak.sub' hGk (by kernel_rfl)) ?_
 let a'7 : AO := (.box [a'1, a'2, a'3, a'4])
 let a'8 : AO := (.box [(vS l.Name), (vI l.Zone), (vI l.Start.Day), (vI l.Start.Second), (vI l.Unit), (vI l.Every), a'5, a'6, (vI l.Calendar), (vI l.Mode)])
 refine AWp.s_reg hGn hGk (aa 3) (Man.aa _ _) [(2, (.ref 1002 0)), (3, (.ref 1003 0))] [(1002, a'7), (1003, a'8)] (by kernel_rfl) (by kernel_rfl) ?_
 refine AWp.seq ?_
 refine AWp.block ?_
 refine AWp.s_reg hGn hGk [.a, .a, .a, .a, .m (some 10) ⟨[(9, a'1)], [], (vI ((c.Zones.length : Nat) : Int)), [], []⟩, .m (some 11) ⟨[(7, (vI l.Zone)), (10, (vI ((c.Zones.length : Nat) : Int)))], [], (vB true), [], []⟩, .a, .a] ⟨StepOK.p rfl rfl rfl (OpOK.lenP (e := 72) rfl rfl (by kernel_rfl) rfl (by rw [List.length_map])),
  StepOK.p rfl rfl rfl (OpOK.call rfl (by kernel_rfl) rfl (by have hq := (res_index l.Zone ((c.Zones.length : Nat) : Int)); rw [(inB_true (by omega))] at hq; exact hq) (by kernel_rfl)), trivial⟩ [(2, (.ref 1002 0)), (3, (.ref 1003 0)), (5, (vB false))] [(1002, a'7), (1003, a'8)] (by kernel_rfl) (by kernel_rfl) ?_
 refine AWp.cond_false rfl ?_
 refine AWp.s_reg hGn hGk (.a :: .a :: .a :: .m (some 17) ⟨[(16, (vI l.Start.Day))], [], (vB false), [], []⟩ :: .a :: .a :: .a :: .a :: .m (some 22) ⟨[(21, (vI l.Start.Day)), (18, (vB false))], [], (vB true), [], []⟩ :: .a :: .a :: .a :: .a :: .a :: .a :: .m (some 29) ⟨[(28, (vI l.Start.Second)), (25, (vB false))], [], (vB true), [], []⟩ :: .a :: .a :: .a :: .a :: .a :: .m (some 35) ⟨[(34, (vI l.Unit)), (32, (vB false))], [], (vB true), [], []⟩ :: .a :: .a :: .a :: .a :: .a :: .m (some 41) ⟨[(40, (vI l.Every)), (38, (vB false))], [], (vB true), [], []⟩ :: .a :: .a :: .a :: []) ⟨StepOK.p rfl rfl rfl (OpOK.lss rfl rfl rfl (decide_eq_false (by omega))),
  StepOK.g rfl rfl rfl rfl rfl (by simp) (OpOK.call rfl (by kernel_rfl) rfl (res_day l.Start.Day (by omega)) (by kernel_rfl)),
  StepOK.g rfl rfl rfl rfl rfl (by simp) (OpOK.call rfl (by kernel_rfl) rfl (by have hq := (res_in l.Start.Second (0 : Int) (86399 : Int)); rw [(inB_true (by omega))] at hq; exact hq) (by kernel_rfl)),
  StepOK.g rfl rfl rfl rfl rfl (by simp) (OpOK.call rfl (by kernel_rfl) rfl (by have hq := (res_in l.Unit (0 : Int) (2 : Int)); rw [(inB_true (by omega))] at hq; exact hq) (by kernel_rfl)),
  StepOK.g rfl rfl rfl rfl rfl (by simp) (OpOK.call rfl (by kernel_rfl) rfl (by have hq := (res_in l.Every (1 : Int) (400 : Int)); rw [(inB_true (by omega))] at hq; exact hq) (by kernel_rfl)), trivial⟩ [(2, (.ref 1002 0)), (3, (.ref 1003 0)), (13, (vB false))] [(1002, a'7), (1003, a'8)] (by kernel_rfl) (by kernel_rfl) ?_
 refine AWp.cond_false rfl ?_
 refine AWp.s_reg hGn hGk [.a, .a, .m (some 47) ⟨[(46, a'5)], [], (vI ((l.Members.length : Nat) : Int)), [], []⟩, .m (some 48) ⟨[(47, (vI ((l.Members.length : Nat) : Int)))], [], (vB false), [], []⟩, .a] ⟨StepOK.p rfl rfl rfl (OpOK.lenP (e := 3) rfl rfl (by kernel_rfl) rfl (by rw [List.length_map])),
  StepOK.p rfl rfl rfl (OpOK.eqlI rfl rfl rfl (decide_eq_false (by omega))), trivial⟩ [(2, (.ref 1002 0)), (3, (.ref 1003 0)), (44, (vB false))] [(1002, a'7), (1003, a'8)] (by kernel_rfl) (by kernel_rfl) ?_
 refine AWp.cond_false rfl ?_
 refine AWp.s_reg hGn hGk [.a, .a, .m (some 52) ⟨[(51, a'5)], [], (vI ((l.Members.length : Nat) : Int)), [], []⟩, .m (some 53) ⟨[(52, (vI ((l.Members.length : Nat) : Int)))], [], (vB false), [], []⟩, .a] ⟨StepOK.p rfl rfl rfl (OpOK.lenP (e := 3) rfl rfl (by kernel_rfl) rfl (by rw [List.length_map])),
  StepOK.p rfl rfl rfl (OpOK.gtr rfl rfl rfl (decide_eq_false (by omega))), trivial⟩ [(2, (.ref 1002 0)), (3, (.ref 1003 0)), (49, (vB false))] [(1002, a'7), (1003, a'8)] (by kernel_rfl) (by kernel_rfl) ?_
 refine AWp.cond_false rfl ?_
 refine AWp.s_reg hGn hGk [.a, .a, .a, .m (some 58) ⟨[(56, a'5), (57, (.clo (.func 145) [] [(.ref 1002 0)]))], [(1002, a'7)], (vB false), [(1002, a'7)], []⟩, .a] ⟨StepOK.p rfl rfl rfl (OpOK.call rfl (by kernel_rfl) rfl (res_mcont c l.Members (by omega) hme hp4) (by kernel_rfl)), trivial⟩ [(2, (.ref 1002 0)), (3, (.ref 1003 0)), (54, (vB false))] [(1002, a'7), (1003, a'8)] (by kernel_rfl) (by kernel_rfl) ?_
 refine AWp.cond_false rfl ?_
 refine AWp.s_reg hGn hGk [.a, .a, .m (some 62) ⟨[(61, a'6)], [], (vI (windowsErr l.Windows)), [], []⟩, .m (some 63) ⟨[(62, (vI (windowsErr l.Windows)))], [], (vB false), [], []⟩, .a] ⟨StepOK.p rfl rfl rfl (OpOK.call rfl (by kernel_rfl) rfl (week_Check l.Windows) (by kernel_rfl)),
  StepOK.p rfl rfl rfl (OpOK.neqI rfl rfl rfl (decide_eq_false (by omega))), trivial⟩ [(2, (.ref 1002 0)), (3, (.ref 1003 0)), (59, (vB false))] [(1002, a'7), (1003, a'8)] (by kernel_rfl) (by kernel_rfl) ?_
 refine AWp.cond_false rfl ?_
 refine AWp.s_reg hGn hGk [.a, .a, .m (some 67) ⟨[(66, (vI l.Mode))], [], (vB true), [], []⟩, .a, .a] ⟨StepOK.p rfl rfl rfl (OpOK.call rfl (by kernel_rfl) rfl (by have hq := (res_in l.Mode (0 : Int) (2 : Int)); rw [(inB_true (by omega))] at hq; exact hq) (by kernel_rfl)), trivial⟩ [(2, (.ref 1002 0)), (3, (.ref 1003 0)), (64, (vB false))] [(1002, a'7), (1003, a'8)] (by kernel_rfl) (by kernel_rfl) ?_
 refine AWp.cond_false rfl ?_
 refine AWp.s_reg hGn hGk [.a, .a, .m (some 72) ⟨[(71, (vI l.Mode))], [], (vB false), [], []⟩, .a, .a, .a, .a, .a, .a, .a, .a, .a, .a] ⟨StepOK.p rfl rfl rfl (OpOK.neqI rfl rfl rfl (decide_eq_false (by omega))), trivial⟩ [(3, (.ref 1003 0)), (69, (vB false))] [(1003, a'8)] (by kernel_rfl) (by kernel_rfl) ?_
 refine AWp.cond_false rfl ?_
 refine AWp.s_reg hGn hGk [.a, .a, .m (some 85) ⟨[(84, (vI l.Mode))], [], (vB true), [], []⟩, .a, .a, .a, .m (some 89) ⟨[(88, (vI l.Calendar)), (86, (vB true))], [], (vB false), [], []⟩, .a, .a] ⟨StepOK.p rfl rfl rfl (OpOK.eqlI rfl rfl rfl (decide_eq_true (by omega))),
  StepOK.g rfl rfl rfl rfl rfl (by simp) (OpOK.neqI rfl rfl rfl (decide_eq_false (by omega))), trivial⟩ [(82, (vB false))] [] (by kernel_rfl) (by kernel_rfl) ?_
 refine AWp.cond_false rfl ?_
 refine AWp.skip ?_
 refine blockQ_normal ?_
 refine nextQ_normal ?_
 refine AWp.s_reg hGn hGk (aa 1) (Man.aa _ _) [(4, (vI 0))] [] (by kernel_rfl) (by kernel_rfl) ?_
 refine AWp.ret ?_
 refine fin_of (.inr rfl) (v := (vI 0)) (Res.tmp rfl rfl) (h' := []) rfl rfl ?_
 exact ⟨rfl, rfl⟩
end Go.Proofs.YtimfbibaoppfcaaGreatDoor
