/-
  The walks of the reference: the checks of books. Printed by wip/gen/pol.py.
-/
import Derived.Test.YtnilcaihikfhbaaGreatBookWalk
set_option maxRecDepth 100000
set_option linter.unusedSimpArgs false
set_option linter.unusedVariables false
namespace Go.Proofs.YtnilcaihikfhbaaGreat
open Go AM
theorem ref_Set (l : List Int) (n : Int) (hl : l.length ≤ 9223372036854775807) :
    SpecIs Tryz.prog 95 [(.p (.sl false 1 (l.map D.cInt))), (vI n)] [] (vB (setB l n)) [] := by
 refine Spec.intro Tryz.func95 rfl (by kernel_rfl) ?_
 intro Γ hGn hGk
 replace hGn : Γ.n = 41 := hGn
 replace hGk : Γ.names = [] := hGk
 refine AWp.weaken (mk [(0, (.p (.sl false 1 (l.map D.cInt)))), (1, (vI n))] []) (Weak.sub' hGk (by kernel_rfl)) ?_
 refine AWp.s_reg hGn hGk (aa 1) (Man.aa _ _) [(0, (.p (.sl false 1 (l.map D.cInt)))), (1, (vI n))] [] (by kernel_rfl) (by kernel_rfl) ?_
 refine AWp.seq ?_
 refine AWp.s_reg hGn hGk (aa 1) (Man.aa _ _) [(0, (.p (.sl false 1 (l.map D.cInt)))), (1, (vI n)), (5, (vI 0))] [] (by kernel_rfl) (by kernel_rfl) ?_
 refine AWp.block ?_
 refine AWp.loop (fun m s => ∃ i, s = (mk [(0, (.p (.sl false 1 (l.map D.cInt)))), (1, (vI n)), (5, (vI ((i : Nat) : Int)))] []) ∧ (i ≤ l.length) ∧ (∀ j, j < i → 0 ≤ nth l j ∧ nth l j < n) ∧ (∀ j, 1 ≤ j → j < i → nth l (j - 1) < nth l j) ∧ m = (l.length - i))
  ⟨_, 0, rfl, (by omega), (by intro j hj; omega), (by intro j hj; omega), rfl⟩ ?_
 rintro mm1 s ⟨i, rfl, hi, hw, ha, hmm1⟩
 refine AWp.seq ?_
 refine AWp.s_reg hGn hGk [.a, .a, .m (some 8) ⟨[(7, (.p (.sl false 1 (l.map D.cInt))))], [], (vI ((l.length : Nat) : Int)), [], []⟩, .a] ⟨StepOK.p rfl rfl rfl (OpOK.lenP (e := 3) rfl rfl (by kernel_rfl) rfl (by rw [List.length_map])), trivial⟩ [(0, (.p (.sl false 1 (l.map D.cInt)))), (1, (vI n)), (5, (vI ((i : Nat) : Int))), (9, (vB (decide (((i : Nat) : Int) < ((l.length : Nat) : Int)))))] [] (by kernel_rfl) (by kernel_rfl) ?_
 refine AWp.cond (decide (((i : Nat) : Int) < ((l.length : Nat) : Int))) rfl (fun hc2 => ?_) (fun hc2 => ?_)
 ·skip
  replace hc2 := of_decide_eq_true hc2
  refine AWp.skip ?_
  refine nextQ_normal ?_
  refine AWp.seq ?_
  refine AWp.block ?_
  by_cases hs3 : (nth l i) < (0 : Int)
  ·skip
   first | refine AWp.cast (show (mk [(0, (.p (.sl false 1 (l.map D.cInt)))), (1, (vI n)), (5, (vI ((i : Nat) : Int))), (9, (vB (decide (((i : Nat) : Int) < ((l.length : Nat) : Int)))))] []) = (mk [(0, (.p (.sl false 1 (l.map D.cInt)))), (1, (vI n)), (5, (vI ((i : Nat) : Int))), (9, (vB true))] []) from by rw [(decide_eq_true hc2)]) ?_ | skip
   refine AWp.s_dreg hGn hGk (by kernel_rfl) [.a, .a, .m (some 14) ⟨[(12, (.p (.sl false 1 (l.map D.cInt)))), (13, (vI ((i : Nat) : Int)))], [], (.eptr [(pI (nth l i))]), [], []⟩, .a, .m (some 16) ⟨[(15, (vI (nth l i)))], [], (vB true), [], []⟩, .a, .a, .a, .a, .a, .a, .a, .a, .a, .a, .a, .a, .a, .a, .a, .a, .a, .a, .a, .a, .a, .a, .a, .a] ⟨StepOK.p rfl rfl rfl (OpOK.indexP (e := 3) rfl (by kernel_rfl) (by kernel_rfl) rfl rfl rfl (map_nth (by omega))),
    StepOK.p rfl rfl rfl (OpOK.lss rfl rfl rfl (decide_eq_true hs3)), trivial⟩ [(0, (.p (.sl false 1 (l.map D.cInt)))), (1, (vI n)), (5, (vI ((i : Nat) : Int))), (40, (vB true))] [] (by kernel_rfl) (by kernel_rfl) (by kernel_rfl) ?_
   refine AWp.cond_true rfl ?_
   refine AWp.s_reg hGn hGk (aa 1) (Man.aa _ _) [(4, (vB false))] [] (by kernel_rfl) (by kernel_rfl) ?_
   refine AWp.ret ?_
   refine blockQ_ret ?_
   refine nextQ_ret ?_
   refine nextQ_ret ?_
   refine blockQ_ret ?_
   refine nextQ_ret ?_
   refine fin_of (.inr rfl) (v := (vB false)) (Res.tmp rfl rfl) (h' := []) rfl rfl ?_
   exact ⟨by rw [setB_no (i := i) (by omega) (by omega)], rfl⟩
  ·skip
   first | refine AWp.cast (show (mk [(0, (.p (.sl false 1 (l.map D.cInt)))), (1, (vI n)), (5, (vI ((i : Nat) : Int))), (9, (vB (decide (((i : Nat) : Int) < ((l.length : Nat) : Int)))))] []) = (mk [(0, (.p (.sl false 1 (l.map D.cInt)))), (1, (vI n)), (5, (vI ((i : Nat) : Int))), (9, (vB true))] []) from by rw [(decide_eq_true hc2)]) ?_ | skip
   by_cases hs4 : n ≤ (nth l i)
   ·skip
    refine AWp.s_dreg hGn hGk (by kernel_rfl) [.a, .a, .m (some 14) ⟨[(12, (.p (.sl false 1 (l.map D.cInt)))), (13, (vI ((i : Nat) : Int)))], [], (.eptr [(pI (nth l i))]), [], []⟩, .a, .m (some 16) ⟨[(15, (vI (nth l i)))], [], (vB false), [], []⟩, .a, .a, .a, .m (some 20) ⟨[(18, (.p (.sl false 1 (l.map D.cInt)))), (19, (vI ((i : Nat) : Int))), (17, (vB false))], [], (.eptr [(pI (nth l i))]), [], []⟩, .a, .a, .m (some 23) ⟨[(21, (vI (nth l i))), (22, (vI n)), (17, (vB false))], [], (vB true), [], []⟩, .a, .a, .a, .a, .a, .a, .a, .a, .a, .a, .a, .a, .a, .a, .a, .a, .a] ⟨StepOK.p rfl rfl rfl (OpOK.indexP (e := 3) rfl (by kernel_rfl) (by kernel_rfl) rfl rfl rfl (map_nth (by omega))),
     StepOK.p rfl rfl rfl (OpOK.lss rfl rfl rfl (decide_eq_false hs3)),
     StepOK.g rfl rfl rfl rfl rfl (by simp) (OpOK.indexP (e := 3) rfl (by kernel_rfl) (by kernel_rfl) rfl rfl rfl (map_nth (by omega))),
     StepOK.g rfl rfl rfl rfl rfl (by simp) (OpOK.geq rfl rfl rfl (decide_eq_true hs4)), trivial⟩ [(0, (.p (.sl false 1 (l.map D.cInt)))), (1, (vI n)), (5, (vI ((i : Nat) : Int))), (40, (vB true))] [] (by kernel_rfl) (by kernel_rfl) (by kernel_rfl) ?_
    refine AWp.cond_true rfl ?_
    refine AWp.s_reg hGn hGk (aa 1) (Man.aa _ _) [(4, (vB false))] [] (by kernel_rfl) (by kernel_rfl) ?_
    refine AWp.ret ?_
    refine blockQ_ret ?_
    refine nextQ_ret ?_
    refine nextQ_ret ?_
    refine blockQ_ret ?_
    refine nextQ_ret ?_
    refine fin_of (.inr rfl) (v := (vB false)) (Res.tmp rfl rfl) (h' := []) rfl rfl ?_
    exact ⟨by rw [setB_no (i := i) (by omega) (by omega)], rfl⟩
   ·skip
    by_cases hs5 : (0 : Int) < ((i : Nat) : Int)
    ·skip
     refine AWp.s_dreg hGn hGk (by kernel_rfl) [.a, .a, .m (some 14) ⟨[(12, (.p (.sl false 1 (l.map D.cInt)))), (13, (vI ((i : Nat) : Int)))], [], (.eptr [(pI (nth l i))]), [], []⟩, .a, .m (some 16) ⟨[(15, (vI (nth l i)))], [], (vB false), [], []⟩, .a, .a, .a, .m (some 20) ⟨[(18, (.p (.sl false 1 (l.map D.cInt)))), (19, (vI ((i : Nat) : Int))), (17, (vB false))], [], (.eptr [(pI (nth l i))]), [], []⟩, .a, .a, .m (some 23) ⟨[(21, (vI (nth l i))), (22, (vI n)), (17, (vB false))], [], (vB false), [], []⟩, .a, .a, .a, .m (some 27) ⟨[(26, (vI ((i : Nat) : Int))), (25, (vB false))], [], (vB true), [], []⟩, .a, .a, .a, .m (some 31) ⟨[(30, (vI ((i : Nat) : Int))), (28, (vB true))], [], (vI ((i - 1 : Nat) : Int)), [], []⟩, .m (some 32) ⟨[(29, (.p (.sl false 1 (l.map D.cInt)))), (31, (vI ((i - 1 : Nat) : Int))), (28, (vB true))], [], (.eptr [(pI (nth l (i - 1)))]), [], []⟩, .a, .a, .a, .m (some 36) ⟨[(34, (.p (.sl false 1 (l.map D.cInt)))), (35, (vI ((i : Nat) : Int))), (28, (vB true))], [], (.eptr [(pI (nth l i))]), [], []⟩, .a, .a, .a, .a] ⟨StepOK.p rfl rfl rfl (OpOK.indexP (e := 3) rfl (by kernel_rfl) (by kernel_rfl) rfl rfl rfl (map_nth (by omega))),
      StepOK.p rfl rfl rfl (OpOK.lss rfl rfl rfl (decide_eq_false hs3)),
      StepOK.g rfl rfl rfl rfl rfl (by simp) (OpOK.indexP (e := 3) rfl (by kernel_rfl) (by kernel_rfl) rfl rfl rfl (map_nth (by omega))),
      StepOK.g rfl rfl rfl rfl rfl (by simp) (OpOK.geq rfl rfl rfl (decide_eq_false hs4)),
      StepOK.g rfl rfl rfl rfl rfl (by simp) (OpOK.gtr rfl rfl rfl (decide_eq_true hs5)),
      StepOK.g rfl rfl rfl rfl rfl (by simp) (OpOK.sub rfl rfl rfl (by rw [IntWalk.i64_in _ ⟨by omega, by omega⟩]; omega)),
      StepOK.g rfl rfl rfl rfl rfl (by simp) (OpOK.indexP (e := 3) rfl (by kernel_rfl) (by kernel_rfl) rfl rfl rfl (map_nth (by omega))),
      StepOK.g rfl rfl rfl rfl rfl (by simp) (OpOK.indexP (e := 3) rfl (by kernel_rfl) (by kernel_rfl) rfl rfl rfl (map_nth (by omega))), trivial⟩ [(0, (.p (.sl false 1 (l.map D.cInt)))), (1, (vI n)), (5, (vI ((i : Nat) : Int))), (40, (vB (decide ((nth l i) ≤ (nth l (i - 1))))))] [] (by kernel_rfl) (by kernel_rfl) (by kernel_rfl) ?_
     refine AWp.cond (decide ((nth l i) ≤ (nth l (i - 1)))) rfl (fun hc6 => ?_) (fun hc6 => ?_)
     ·skip
      replace hc6 := of_decide_eq_true hc6
      refine AWp.s_reg hGn hGk (aa 1) (Man.aa _ _) [(4, (vB false))] [] (by kernel_rfl) (by kernel_rfl) ?_
      refine AWp.ret ?_
      refine blockQ_ret ?_
      refine nextQ_ret ?_
      refine nextQ_ret ?_
      refine blockQ_ret ?_
      refine nextQ_ret ?_
      refine fin_of (.inr rfl) (v := (vB false)) (Res.tmp rfl rfl) (h' := []) rfl rfl ?_
      exact ⟨by rw [setB_no (i := i) (by omega) (by omega)], rfl⟩
     ·skip
      replace hc6 := of_decide_eq_false hc6
      refine AWp.skip ?_
      refine blockQ_normal ?_
      refine nextQ_normal ?_
      refine AWp.reg' hGn hGk [.a, .m (some 11) ⟨[(10, (vI ((i : Nat) : Int)))], [], (vI ((i + 1 : Nat) : Int)), [], []⟩, .a] ⟨StepOK.p rfl rfl rfl (OpOK.add rfl rfl rfl (by rw [IntWalk.i64_in _ ⟨by omega, by omega⟩]; omega)), trivial⟩ [(0, (.p (.sl false 1 (l.map D.cInt)))), (1, (vI n)), (5, (vI ((i + 1 : Nat) : Int)))] [] (by kernel_rfl) (by kernel_rfl) ?_
      refine nextQ_normal ⟨_, ?_, (i + 1), rfl, (by omega), (fun j hj => by rcases Nat.lt_or_ge j i with h | h; exact hw j h; rw [show j = i from by omega]; omega), (fun j h1 hj => by rcases Nat.lt_or_ge j i with h | h; exact ha j h1 h; rw [show j = i from by omega]; omega), rfl⟩
      · omega
    ·skip
     refine AWp.s_dreg hGn hGk (by kernel_rfl) [.a, .a, .m (some 14) ⟨[(12, (.p (.sl false 1 (l.map D.cInt)))), (13, (vI ((i : Nat) : Int)))], [], (.eptr [(pI (nth l i))]), [], []⟩, .a, .m (some 16) ⟨[(15, (vI (nth l i)))], [], (vB false), [], []⟩, .a, .a, .a, .m (some 20) ⟨[(18, (.p (.sl false 1 (l.map D.cInt)))), (19, (vI ((i : Nat) : Int))), (17, (vB false))], [], (.eptr [(pI (nth l i))]), [], []⟩, .a, .a, .m (some 23) ⟨[(21, (vI (nth l i))), (22, (vI n)), (17, (vB false))], [], (vB false), [], []⟩, .a, .a, .a, .m (some 27) ⟨[(26, (vI ((i : Nat) : Int))), (25, (vB false))], [], (vB false), [], []⟩, .a, .a, .a, .a, .a, .a, .a, .a, .a, .a, .a, .a, .a] ⟨StepOK.p rfl rfl rfl (OpOK.indexP (e := 3) rfl (by kernel_rfl) (by kernel_rfl) rfl rfl rfl (map_nth (by omega))),
      StepOK.p rfl rfl rfl (OpOK.lss rfl rfl rfl (decide_eq_false hs3)),
      StepOK.g rfl rfl rfl rfl rfl (by simp) (OpOK.indexP (e := 3) rfl (by kernel_rfl) (by kernel_rfl) rfl rfl rfl (map_nth (by omega))),
      StepOK.g rfl rfl rfl rfl rfl (by simp) (OpOK.geq rfl rfl rfl (decide_eq_false hs4)),
      StepOK.g rfl rfl rfl rfl rfl (by simp) (OpOK.gtr rfl rfl rfl (decide_eq_false hs5)), trivial⟩ [(0, (.p (.sl false 1 (l.map D.cInt)))), (1, (vI n)), (5, (vI ((i : Nat) : Int))), (40, (vB false))] [] (by kernel_rfl) (by kernel_rfl) (by kernel_rfl) ?_
     refine AWp.cond_false rfl ?_
     refine AWp.skip ?_
     refine blockQ_normal ?_
     refine nextQ_normal ?_
     refine AWp.reg' hGn hGk [.a, .m (some 11) ⟨[(10, (vI ((i : Nat) : Int)))], [], (vI ((i + 1 : Nat) : Int)), [], []⟩, .a] ⟨StepOK.p rfl rfl rfl (OpOK.add rfl rfl rfl (by rw [IntWalk.i64_in _ ⟨by omega, by omega⟩]; omega)), trivial⟩ [(0, (.p (.sl false 1 (l.map D.cInt)))), (1, (vI n)), (5, (vI ((i + 1 : Nat) : Int)))] [] (by kernel_rfl) (by kernel_rfl) ?_
     refine nextQ_normal ⟨_, ?_, (i + 1), rfl, (by omega), (fun j hj => by rcases Nat.lt_or_ge j i with h | h; exact hw j h; rw [show j = i from by omega]; omega), (fun j h1 hj => by rcases Nat.lt_or_ge j i with h | h; exact ha j h1 h; rw [show j = i from by omega]; omega), rfl⟩
     · omega
 ·skip
  replace hc2 := of_decide_eq_false hc2
  refine AWp.weaken (mk [] []) (Weak.sub' hGk (by kernel_rfl)) ?_
  refine AWp.exit ?_
  refine nextQ_exit ?_
  refine nextQ_exit ?_
  refine blockQ_exit ?_
  refine nextQ_normal ?_
  refine AWp.s_reg hGn hGk (aa 1) (Man.aa _ _) [(4, (vB true))] [] (by kernel_rfl) (by kernel_rfl) ?_
  refine AWp.ret ?_
  refine fin_of (.inr rfl) (v := (vB true)) (Res.tmp rfl rfl) (h' := []) rfl rfl ?_
  exact ⟨by rw [setB_yes (k := i) (by omega) hw ha], rfl⟩

theorem ref_targets (c : D.Config) (b : D.Book) (l : List D.Target) :
    SpecIs Tryz.prog 97 [(.agg [(.p (.sl false 3 (c.Zones.map D.Zone.cells))), (.p (.sl false 6 (c.People.map D.Person.cells))), (.p (.sl false 3 (c.Calendars.map D.Calendar.cells))), (.p (.sl false 3 (c.Schedules.map D.Schedule.cells)))]), (.agg [(.p (.sl false 2 (b.Teams.map D.Team.cells))), (.p (.sl false 3 (b.Policies.map D.Policy.cells)))]), (.p (.sl false 2 (l.map D.Target.cells)))] [] (vI (targetsErr c.People.length c.Schedules.length b.Teams.length l)) [] := by
 refine Spec.intro Tryz.func97 rfl (by kernel_rfl) ?_
 intro Γ hGn hGk
 replace hGn : Γ.n = 53 := hGn
 replace hGk : Γ.names = [] := hGk
 let a'1 : AV := (.p (.sl false 3 (c.Zones.map D.Zone.cells)))
 let a'2 : AV := (.p (.sl false 6 (c.People.map D.Person.cells)))
 let a'3 : AV := (.p (.sl false 3 (c.Calendars.map D.Calendar.cells)))
 let a'4 : AV := (.p (.sl false 3 (c.Schedules.map D.Schedule.cells)))
 let a'5 : AV := (.p (.sl false 2 (b.Teams.map D.Team.cells)))
 let a'6 : AV := (.p (.sl false 3 (b.Policies.map D.Policy.cells)))
 let a'7 : AV := (.p (.sl false 2 (l.map D.Target.cells)))
 refine AWp.weaken (mk [(0, (.agg [a'1, a'2, a'3, a'4])), (1, (.agg [a'5, a'6])), (2, a'7)] []) (Weak.sub' hGk (by kernel_rfl)) ?_
 let a'8 : AO := (.box [a'1, a'2, a'3, a'4])
 let a'9 : AO := (.box [a'5, a'6])
 refine AWp.s_reg hGn hGk (aa 3) (Man.aa _ _) [(2, a'7), (3, (.ref 1003 0)), (4, (.ref 1004 0))] [(1003, a'8), (1004, a'9)] (by kernel_rfl) (by kernel_rfl) ?_
 refine AWp.seq ?_
 refine AWp.s_reg hGn hGk [.a, .m (some 10) ⟨[(9, a'7)], [], (vI ((l.length : Nat) : Int)), [], []⟩, .a] ⟨StepOK.p rfl rfl rfl (OpOK.lenP (e := 47) rfl rfl (by kernel_rfl) rfl (by rw [List.length_map])), trivial⟩ [(2, a'7), (3, (.ref 1003 0)), (4, (.ref 1004 0)), (11, (vB (decide ((6 : Int) < ((l.length : Nat) : Int)))))] [(1003, a'8), (1004, a'9)] (by kernel_rfl) (by kernel_rfl) ?_
 refine AWp.cond (decide ((6 : Int) < ((l.length : Nat) : Int))) rfl (fun hc1 => ?_) (fun hc1 => ?_)
 ·skip
  replace hc1 := of_decide_eq_true hc1
  refine AWp.s_reg hGn hGk (aa 1) (Man.aa _ _) [(6, (vI 5))] [] (by kernel_rfl) (by kernel_rfl) ?_
  refine AWp.ret ?_
  refine nextQ_ret ?_
  refine fin_of (.inr rfl) (v := (vI 5)) (Res.tmp rfl rfl) (h' := []) rfl rfl ?_
  exact ⟨by rw [show targetsErr c.People.length c.Schedules.length b.Teams.length l = 5 from by unfold targetsErr; rw [if_pos (by omega)]], rfl⟩
 ·skip
  replace hc1 := of_decide_eq_false hc1
  refine AWp.skip ?_
  refine nextQ_normal ?_
  refine AWp.seq ?_
  refine AWp.s_reg hGn hGk (aa 1) (Man.aa _ _) [(2, a'7), (3, (.ref 1003 0)), (4, (.ref 1004 0)), (7, (vI 0))] [(1003, a'8), (1004, a'9)] (by kernel_rfl) (by kernel_rfl) ?_
  refine AWp.block ?_
  refine AWp.loop (fun m s => ∃ j, s = (mk [(2, (.p (.sl false 2 (l.map D.Target.cells)))), (3, (.ref 1003 0)), (4, (.ref 1004 0)), (7, (vI ((j : Nat) : Int)))] [(1003, (.box [(.p (.sl false 3 (c.Zones.map D.Zone.cells))), (.p (.sl false 6 (c.People.map D.Person.cells))), (.p (.sl false 3 (c.Calendars.map D.Calendar.cells))), (.p (.sl false 3 (c.Schedules.map D.Schedule.cells)))])), (1004, (.box [(.p (.sl false 2 (b.Teams.map D.Team.cells))), (.p (.sl false 3 (b.Policies.map D.Policy.cells)))]))]) ∧ (j ≤ l.length) ∧ (firstN (fun i => targetErr c.People.length c.Schedules.length b.Teams.length (nth l i)) j = 0) ∧ m = (l.length - j))
   ⟨_, 0, rfl, (by omega), rfl, rfl⟩ ?_
  rintro mm2 s ⟨j, rfl, hj, hz, hmm2⟩
  refine AWp.seq ?_
  refine AWp.s_reg hGn hGk [.a, .a, .m (some 14) ⟨[(13, a'7)], [], (vI ((l.length : Nat) : Int)), [], []⟩, .a] ⟨StepOK.p rfl rfl rfl (OpOK.lenP (e := 47) rfl rfl (by kernel_rfl) rfl (by rw [List.length_map])), trivial⟩ [(2, a'7), (3, (.ref 1003 0)), (4, (.ref 1004 0)), (7, (vI ((j : Nat) : Int))), (15, (vB (decide (((j : Nat) : Int) < ((l.length : Nat) : Int)))))] [(1003, a'8), (1004, a'9)] (by kernel_rfl) (by kernel_rfl) ?_
  refine AWp.cond (decide (((j : Nat) : Int) < ((l.length : Nat) : Int))) rfl (fun hc3 => ?_) (fun hc3 => ?_)
  ·skip
   replace hc3 := of_decide_eq_true hc3
   refine AWp.skip ?_
   refine nextQ_normal ?_
   refine AWp.seq ?_
   refine AWp.block ?_
   refine AWp.s_reg hGn hGk (aa 1) (Man.aa _ _) [(2, a'7), (3, (.ref 1003 0)), (4, (.ref 1004 0)), (7, (vI ((j : Nat) : Int))), (8, (vI (-1)))] [(1003, a'8), (1004, a'9)] (by kernel_rfl) (by kernel_rfl) ?_
   refine AWp.seq ?_
   refine AWp.s_reg hGn hGk [.a, .a, .m (some 20) ⟨[(18, a'7), (19, (vI ((j : Nat) : Int)))], [], (.eptr [(pI ((nth l j).Kind)), (pI ((nth l j).Index))]), [], []⟩, .a, .a] ⟨StepOK.p rfl rfl rfl (OpOK.indexP (e := 47) rfl (by kernel_rfl) (by kernel_rfl) rfl rfl rfl (map_nth (by omega))), trivial⟩ [(2, a'7), (3, (.ref 1003 0)), (4, (.ref 1004 0)), (7, (vI ((j : Nat) : Int))), (8, (vI (-1))), (22, (vI ((nth l j).Kind)))] [(1003, a'8), (1004, a'9)] (by kernel_rfl) (by kernel_rfl) ?_
   refine AWp.block ?_
   refine AWp.s_reg hGn hGk (aa 2) (Man.aa _ _) [(2, a'7), (3, (.ref 1003 0)), (4, (.ref 1004 0)), (7, (vI ((j : Nat) : Int))), (8, (vI (-1))), (22, (vI ((nth l j).Kind))), (23, (vB (decide (((nth l j).Kind) = (0 : Int)))))] [(1003, a'8), (1004, a'9)] (by kernel_rfl) (by kernel_rfl) ?_
   refine AWp.cond (decide (((nth l j).Kind) = (0 : Int))) rfl (fun hc4 => ?_) (fun hc4 => ?_)
   ·skip
    replace hc4 := of_decide_eq_true hc4
    refine AWp.reg' hGn hGk [.a, .a, .m (some 27) ⟨[(26, a'2)], [], (vI ((c.People.length : Nat) : Int)), [], []⟩, .a] ⟨StepOK.p rfl rfl rfl (OpOK.lenP (e := 73) rfl rfl (by kernel_rfl) rfl (by rw [List.length_map])), trivial⟩ [(2, a'7), (3, (.ref 1003 0)), (4, (.ref 1004 0)), (7, (vI ((j : Nat) : Int))), (8, (vI ((c.People.length : Nat) : Int)))] [(1003, a'8), (1004, a'9)] (by kernel_rfl) (by kernel_rfl) ?_
    refine blockQ_normal ?_
    refine nextQ_normal ?_
    by_cases hs5 : ((nth l j).Index) < (0 : Int)
    ·skip
     refine AWp.s_reg hGn hGk [.a, .a, .m (some 40) ⟨[(38, a'7), (39, (vI ((j : Nat) : Int)))], [], (.eptr [(pI ((nth l j).Kind)), (pI ((nth l j).Index))]), [], []⟩, .a, .a, .m (some 43) ⟨[(42, (vI ((nth l j).Index)))], [], (vB true), [], []⟩, .a, .a, .a, .a, .a, .a, .a, .a, .a] ⟨StepOK.p rfl rfl rfl (OpOK.indexP (e := 47) rfl (by kernel_rfl) (by kernel_rfl) rfl rfl rfl (map_nth (by omega))),
      StepOK.p rfl rfl rfl (OpOK.lss rfl rfl rfl (decide_eq_true hs5)), trivial⟩ [(2, a'7), (3, (.ref 1003 0)), (4, (.ref 1004 0)), (7, (vI ((j : Nat) : Int))), (52, (vB true))] [(1003, a'8), (1004, a'9)] (by kernel_rfl) (by kernel_rfl) ?_
     refine AWp.cond_true rfl ?_
     refine AWp.s_reg hGn hGk (aa 1) (Man.aa _ _) [(6, (vI 3))] [] (by kernel_rfl) (by kernel_rfl) ?_
     refine AWp.ret ?_
     refine blockQ_ret ?_
     refine nextQ_ret ?_
     refine nextQ_ret ?_
     refine blockQ_ret ?_
     refine nextQ_ret ?_
     refine fin_of (.inr rfl) (v := (vI 3)) (Res.tmp rfl rfl) (h' := []) rfl rfl ?_
     exact ⟨by rw [show targetsErr c.People.length c.Schedules.length b.Teams.length l = 3 from by unfold targetsErr; rw [if_neg (by omega)]; exact firstN_err hz (by omega) (by rw [target_eq, if_neg (by omega)]) (by decide)], rfl⟩
    ·skip
     refine AWp.s_reg hGn hGk [.a, .a, .m (some 40) ⟨[(38, a'7), (39, (vI ((j : Nat) : Int)))], [], (.eptr [(pI ((nth l j).Kind)), (pI ((nth l j).Index))]), [], []⟩, .a, .a, .m (some 43) ⟨[(42, (vI ((nth l j).Index)))], [], (vB false), [], []⟩, .a, .a, .a, .m (some 47) ⟨[(45, a'7), (46, (vI ((j : Nat) : Int))), (44, (vB false))], [], (.eptr [(pI ((nth l j).Kind)), (pI ((nth l j).Index))]), [], []⟩, .a, .a, .a, .a, .a] ⟨StepOK.p rfl rfl rfl (OpOK.indexP (e := 47) rfl (by kernel_rfl) (by kernel_rfl) rfl rfl rfl (map_nth (by omega))),
      StepOK.p rfl rfl rfl (OpOK.lss rfl rfl rfl (decide_eq_false hs5)),
      StepOK.g rfl rfl rfl rfl rfl (by simp) (OpOK.indexP (e := 47) rfl (by kernel_rfl) (by kernel_rfl) rfl rfl rfl (map_nth (by omega))), trivial⟩ [(2, a'7), (3, (.ref 1003 0)), (4, (.ref 1004 0)), (7, (vI ((j : Nat) : Int))), (52, (vB (decide (((c.People.length : Nat) : Int) ≤ ((nth l j).Index)))))] [(1003, a'8), (1004, a'9)] (by kernel_rfl) (by kernel_rfl) ?_
     refine AWp.cond (decide (((c.People.length : Nat) : Int) ≤ ((nth l j).Index))) rfl (fun hc6 => ?_) (fun hc6 => ?_)
     ·skip
      replace hc6 := of_decide_eq_true hc6
      refine AWp.s_reg hGn hGk (aa 1) (Man.aa _ _) [(6, (vI 3))] [] (by kernel_rfl) (by kernel_rfl) ?_
      refine AWp.ret ?_
      refine blockQ_ret ?_
      refine nextQ_ret ?_
      refine nextQ_ret ?_
      refine blockQ_ret ?_
      refine nextQ_ret ?_
      refine fin_of (.inr rfl) (v := (vI 3)) (Res.tmp rfl rfl) (h' := []) rfl rfl ?_
      exact ⟨by rw [show targetsErr c.People.length c.Schedules.length b.Teams.length l = 3 from by unfold targetsErr; rw [if_neg (by omega)]; exact firstN_err hz (by omega) (by rw [target_eq, if_neg (by omega)]) (by decide)], rfl⟩
     ·skip
      replace hc6 := of_decide_eq_false hc6
      refine AWp.skip ?_
      refine blockQ_normal ?_
      refine nextQ_normal ?_
      refine AWp.reg' hGn hGk [.a, .m (some 17) ⟨[(16, (vI ((j : Nat) : Int)))], [], (vI ((j + 1 : Nat) : Int)), [], []⟩, .a] ⟨StepOK.p rfl rfl rfl (OpOK.add rfl rfl rfl (by rw [IntWalk.i64_in _ ⟨by omega, by omega⟩]; omega)), trivial⟩ [(2, a'7), (3, (.ref 1003 0)), (4, (.ref 1004 0)), (7, (vI ((j + 1 : Nat) : Int)))] [(1003, a'8), (1004, a'9)] (by kernel_rfl) (by kernel_rfl) ?_
      refine nextQ_normal ⟨_, ?_, (j + 1), rfl, (by omega), (firstN_step hz (by rw [target_eq, if_pos (by omega)])), rfl⟩
      · omega
   ·skip
    replace hc4 := of_decide_eq_false hc4
    refine AWp.s_reg hGn hGk (aa 2) (Man.aa _ _) [(2, a'7), (3, (.ref 1003 0)), (4, (.ref 1004 0)), (7, (vI ((j : Nat) : Int))), (8, (vI (-1))), (22, (vI ((nth l j).Kind))), (28, (vB (decide (((nth l j).Kind) = (1 : Int)))))] [(1003, a'8), (1004, a'9)] (by kernel_rfl) (by kernel_rfl) ?_
    refine AWp.cond (decide (((nth l j).Kind) = (1 : Int))) rfl (fun hc7 => ?_) (fun hc7 => ?_)
    ·skip
     replace hc7 := of_decide_eq_true hc7
     refine AWp.reg' hGn hGk [.a, .a, .m (some 32) ⟨[(31, a'4)], [], (vI ((c.Schedules.length : Nat) : Int)), [], []⟩, .a] ⟨StepOK.p rfl rfl rfl (OpOK.lenP (e := 83) rfl rfl (by kernel_rfl) rfl (by rw [List.length_map])), trivial⟩ [(2, a'7), (3, (.ref 1003 0)), (4, (.ref 1004 0)), (7, (vI ((j : Nat) : Int))), (8, (vI ((c.Schedules.length : Nat) : Int)))] [(1003, a'8), (1004, a'9)] (by kernel_rfl) (by kernel_rfl) ?_
     refine blockQ_normal ?_
     refine nextQ_normal ?_
     by_cases hs8 : ((nth l j).Index) < (0 : Int)
     ·skip
      refine AWp.s_reg hGn hGk [.a, .a, .m (some 40) ⟨[(38, a'7), (39, (vI ((j : Nat) : Int)))], [], (.eptr [(pI ((nth l j).Kind)), (pI ((nth l j).Index))]), [], []⟩, .a, .a, .m (some 43) ⟨[(42, (vI ((nth l j).Index)))], [], (vB true), [], []⟩, .a, .a, .a, .a, .a, .a, .a, .a, .a] ⟨StepOK.p rfl rfl rfl (OpOK.indexP (e := 47) rfl (by kernel_rfl) (by kernel_rfl) rfl rfl rfl (map_nth (by omega))),
       StepOK.p rfl rfl rfl (OpOK.lss rfl rfl rfl (decide_eq_true hs8)), trivial⟩ [(2, a'7), (3, (.ref 1003 0)), (4, (.ref 1004 0)), (7, (vI ((j : Nat) : Int))), (52, (vB true))] [(1003, a'8), (1004, a'9)] (by kernel_rfl) (by kernel_rfl) ?_
      refine AWp.cond_true rfl ?_
      refine AWp.s_reg hGn hGk (aa 1) (Man.aa _ _) [(6, (vI 3))] [] (by kernel_rfl) (by kernel_rfl) ?_
      refine AWp.ret ?_
      refine blockQ_ret ?_
      refine nextQ_ret ?_
      refine nextQ_ret ?_
      refine blockQ_ret ?_
      refine nextQ_ret ?_
      refine fin_of (.inr rfl) (v := (vI 3)) (Res.tmp rfl rfl) (h' := []) rfl rfl ?_
      exact ⟨by rw [show targetsErr c.People.length c.Schedules.length b.Teams.length l = 3 from by unfold targetsErr; rw [if_neg (by omega)]; exact firstN_err hz (by omega) (by rw [target_eq, if_neg (by omega)]) (by decide)], rfl⟩
     ·skip
      refine AWp.s_reg hGn hGk [.a, .a, .m (some 40) ⟨[(38, a'7), (39, (vI ((j : Nat) : Int)))], [], (.eptr [(pI ((nth l j).Kind)), (pI ((nth l j).Index))]), [], []⟩, .a, .a, .m (some 43) ⟨[(42, (vI ((nth l j).Index)))], [], (vB false), [], []⟩, .a, .a, .a, .m (some 47) ⟨[(45, a'7), (46, (vI ((j : Nat) : Int))), (44, (vB false))], [], (.eptr [(pI ((nth l j).Kind)), (pI ((nth l j).Index))]), [], []⟩, .a, .a, .a, .a, .a] ⟨StepOK.p rfl rfl rfl (OpOK.indexP (e := 47) rfl (by kernel_rfl) (by kernel_rfl) rfl rfl rfl (map_nth (by omega))),
       StepOK.p rfl rfl rfl (OpOK.lss rfl rfl rfl (decide_eq_false hs8)),
       StepOK.g rfl rfl rfl rfl rfl (by simp) (OpOK.indexP (e := 47) rfl (by kernel_rfl) (by kernel_rfl) rfl rfl rfl (map_nth (by omega))), trivial⟩ [(2, a'7), (3, (.ref 1003 0)), (4, (.ref 1004 0)), (7, (vI ((j : Nat) : Int))), (52, (vB (decide (((c.Schedules.length : Nat) : Int) ≤ ((nth l j).Index)))))] [(1003, a'8), (1004, a'9)] (by kernel_rfl) (by kernel_rfl) ?_
      refine AWp.cond (decide (((c.Schedules.length : Nat) : Int) ≤ ((nth l j).Index))) rfl (fun hc9 => ?_) (fun hc9 => ?_)
      ·skip
       replace hc9 := of_decide_eq_true hc9
       refine AWp.s_reg hGn hGk (aa 1) (Man.aa _ _) [(6, (vI 3))] [] (by kernel_rfl) (by kernel_rfl) ?_
       refine AWp.ret ?_
       refine blockQ_ret ?_
       refine nextQ_ret ?_
       refine nextQ_ret ?_
       refine blockQ_ret ?_
       refine nextQ_ret ?_
       refine fin_of (.inr rfl) (v := (vI 3)) (Res.tmp rfl rfl) (h' := []) rfl rfl ?_
       exact ⟨by rw [show targetsErr c.People.length c.Schedules.length b.Teams.length l = 3 from by unfold targetsErr; rw [if_neg (by omega)]; exact firstN_err hz (by omega) (by rw [target_eq, if_neg (by omega)]) (by decide)], rfl⟩
      ·skip
       replace hc9 := of_decide_eq_false hc9
       refine AWp.skip ?_
       refine blockQ_normal ?_
       refine nextQ_normal ?_
       refine AWp.reg' hGn hGk [.a, .m (some 17) ⟨[(16, (vI ((j : Nat) : Int)))], [], (vI ((j + 1 : Nat) : Int)), [], []⟩, .a] ⟨StepOK.p rfl rfl rfl (OpOK.add rfl rfl rfl (by rw [IntWalk.i64_in _ ⟨by omega, by omega⟩]; omega)), trivial⟩ [(2, a'7), (3, (.ref 1003 0)), (4, (.ref 1004 0)), (7, (vI ((j + 1 : Nat) : Int)))] [(1003, a'8), (1004, a'9)] (by kernel_rfl) (by kernel_rfl) ?_
       refine nextQ_normal ⟨_, ?_, (j + 1), rfl, (by omega), (firstN_step hz (by rw [target_eq, if_pos (by omega)])), rfl⟩
       · omega
    ·skip
     replace hc7 := of_decide_eq_false hc7
     refine AWp.s_reg hGn hGk (aa 2) (Man.aa _ _) [(2, a'7), (3, (.ref 1003 0)), (4, (.ref 1004 0)), (7, (vI ((j : Nat) : Int))), (8, (vI (-1))), (33, (vB (decide (((nth l j).Kind) = (2 : Int)))))] [(1003, a'8), (1004, a'9)] (by kernel_rfl) (by kernel_rfl) ?_
     refine AWp.cond (decide (((nth l j).Kind) = (2 : Int))) rfl (fun hc10 => ?_) (fun hc10 => ?_)
     ·skip
      replace hc10 := of_decide_eq_true hc10
      refine AWp.reg' hGn hGk [.a, .a, .m (some 37) ⟨[(36, a'5)], [], (vI ((b.Teams.length : Nat) : Int)), [], []⟩, .a] ⟨StepOK.p rfl rfl rfl (OpOK.lenP (e := 54) rfl rfl (by kernel_rfl) rfl (by rw [List.length_map])), trivial⟩ [(2, a'7), (3, (.ref 1003 0)), (4, (.ref 1004 0)), (7, (vI ((j : Nat) : Int))), (8, (vI ((b.Teams.length : Nat) : Int)))] [(1003, a'8), (1004, a'9)] (by kernel_rfl) (by kernel_rfl) ?_
      refine blockQ_normal ?_
      refine nextQ_normal ?_
      by_cases hs11 : ((nth l j).Index) < (0 : Int)
      ·skip
       refine AWp.s_reg hGn hGk [.a, .a, .m (some 40) ⟨[(38, a'7), (39, (vI ((j : Nat) : Int)))], [], (.eptr [(pI ((nth l j).Kind)), (pI ((nth l j).Index))]), [], []⟩, .a, .a, .m (some 43) ⟨[(42, (vI ((nth l j).Index)))], [], (vB true), [], []⟩, .a, .a, .a, .a, .a, .a, .a, .a, .a] ⟨StepOK.p rfl rfl rfl (OpOK.indexP (e := 47) rfl (by kernel_rfl) (by kernel_rfl) rfl rfl rfl (map_nth (by omega))),
        StepOK.p rfl rfl rfl (OpOK.lss rfl rfl rfl (decide_eq_true hs11)), trivial⟩ [(2, a'7), (3, (.ref 1003 0)), (4, (.ref 1004 0)), (7, (vI ((j : Nat) : Int))), (52, (vB true))] [(1003, a'8), (1004, a'9)] (by kernel_rfl) (by kernel_rfl) ?_
       refine AWp.cond_true rfl ?_
       refine AWp.s_reg hGn hGk (aa 1) (Man.aa _ _) [(6, (vI 3))] [] (by kernel_rfl) (by kernel_rfl) ?_
       refine AWp.ret ?_
       refine blockQ_ret ?_
       refine nextQ_ret ?_
       refine nextQ_ret ?_
       refine blockQ_ret ?_
       refine nextQ_ret ?_
       refine fin_of (.inr rfl) (v := (vI 3)) (Res.tmp rfl rfl) (h' := []) rfl rfl ?_
       exact ⟨by rw [show targetsErr c.People.length c.Schedules.length b.Teams.length l = 3 from by unfold targetsErr; rw [if_neg (by omega)]; exact firstN_err hz (by omega) (by rw [target_eq, if_neg (by omega)]) (by decide)], rfl⟩
      ·skip
       refine AWp.s_reg hGn hGk [.a, .a, .m (some 40) ⟨[(38, a'7), (39, (vI ((j : Nat) : Int)))], [], (.eptr [(pI ((nth l j).Kind)), (pI ((nth l j).Index))]), [], []⟩, .a, .a, .m (some 43) ⟨[(42, (vI ((nth l j).Index)))], [], (vB false), [], []⟩, .a, .a, .a, .m (some 47) ⟨[(45, a'7), (46, (vI ((j : Nat) : Int))), (44, (vB false))], [], (.eptr [(pI ((nth l j).Kind)), (pI ((nth l j).Index))]), [], []⟩, .a, .a, .a, .a, .a] ⟨StepOK.p rfl rfl rfl (OpOK.indexP (e := 47) rfl (by kernel_rfl) (by kernel_rfl) rfl rfl rfl (map_nth (by omega))),
        StepOK.p rfl rfl rfl (OpOK.lss rfl rfl rfl (decide_eq_false hs11)),
        StepOK.g rfl rfl rfl rfl rfl (by simp) (OpOK.indexP (e := 47) rfl (by kernel_rfl) (by kernel_rfl) rfl rfl rfl (map_nth (by omega))), trivial⟩ [(2, a'7), (3, (.ref 1003 0)), (4, (.ref 1004 0)), (7, (vI ((j : Nat) : Int))), (52, (vB (decide (((b.Teams.length : Nat) : Int) ≤ ((nth l j).Index)))))] [(1003, a'8), (1004, a'9)] (by kernel_rfl) (by kernel_rfl) ?_
       refine AWp.cond (decide (((b.Teams.length : Nat) : Int) ≤ ((nth l j).Index))) rfl (fun hc12 => ?_) (fun hc12 => ?_)
       ·skip
        replace hc12 := of_decide_eq_true hc12
        refine AWp.s_reg hGn hGk (aa 1) (Man.aa _ _) [(6, (vI 3))] [] (by kernel_rfl) (by kernel_rfl) ?_
        refine AWp.ret ?_
        refine blockQ_ret ?_
        refine nextQ_ret ?_
        refine nextQ_ret ?_
        refine blockQ_ret ?_
        refine nextQ_ret ?_
        refine fin_of (.inr rfl) (v := (vI 3)) (Res.tmp rfl rfl) (h' := []) rfl rfl ?_
        exact ⟨by rw [show targetsErr c.People.length c.Schedules.length b.Teams.length l = 3 from by unfold targetsErr; rw [if_neg (by omega)]; exact firstN_err hz (by omega) (by rw [target_eq, if_neg (by omega)]) (by decide)], rfl⟩
       ·skip
        replace hc12 := of_decide_eq_false hc12
        refine AWp.skip ?_
        refine blockQ_normal ?_
        refine nextQ_normal ?_
        refine AWp.reg' hGn hGk [.a, .m (some 17) ⟨[(16, (vI ((j : Nat) : Int)))], [], (vI ((j + 1 : Nat) : Int)), [], []⟩, .a] ⟨StepOK.p rfl rfl rfl (OpOK.add rfl rfl rfl (by rw [IntWalk.i64_in _ ⟨by omega, by omega⟩]; omega)), trivial⟩ [(2, a'7), (3, (.ref 1003 0)), (4, (.ref 1004 0)), (7, (vI ((j + 1 : Nat) : Int)))] [(1003, a'8), (1004, a'9)] (by kernel_rfl) (by kernel_rfl) ?_
        refine nextQ_normal ⟨_, ?_, (j + 1), rfl, (by omega), (firstN_step hz (by rw [target_eq, if_pos (by omega)])), rfl⟩
        · omega
     ·skip
      replace hc10 := of_decide_eq_false hc10
      refine AWp.skip ?_
      refine blockQ_normal ?_
      refine nextQ_normal ?_
      by_cases hs13 : ((nth l j).Index) < (0 : Int)
      ·skip
       first | refine AWp.cast (show (mk [(2, (.p (.sl false 2 (l.map D.Target.cells)))), (3, (.ref 1003 0)), (4, (.ref 1004 0)), (7, (vI ((j : Nat) : Int))), (8, (vI (-1))), (33, (vB (decide (((nth l j).Kind) = (2 : Int)))))] [(1003, (.box [(.p (.sl false 3 (c.Zones.map D.Zone.cells))), (.p (.sl false 6 (c.People.map D.Person.cells))), (.p (.sl false 3 (c.Calendars.map D.Calendar.cells))), (.p (.sl false 3 (c.Schedules.map D.Schedule.cells)))])), (1004, (.box [(.p (.sl false 2 (b.Teams.map D.Team.cells))), (.p (.sl false 3 (b.Policies.map D.Policy.cells)))]))]) = (mk [(2, (.p (.sl false 2 (l.map D.Target.cells)))), (3, (.ref 1003 0)), (4, (.ref 1004 0)), (7, (vI ((j : Nat) : Int))), (8, (vI (-1))), (33, (vB false))] [(1003, (.box [(.p (.sl false 3 (c.Zones.map D.Zone.cells))), (.p (.sl false 6 (c.People.map D.Person.cells))), (.p (.sl false 3 (c.Calendars.map D.Calendar.cells))), (.p (.sl false 3 (c.Schedules.map D.Schedule.cells)))])), (1004, (.box [(.p (.sl false 2 (b.Teams.map D.Team.cells))), (.p (.sl false 3 (b.Policies.map D.Policy.cells)))]))]) from by rw [(decide_eq_false hc10)]) ?_ | skip
       refine AWp.s_reg hGn hGk [.a, .a, .m (some 40) ⟨[(38, a'7), (39, (vI ((j : Nat) : Int)))], [], (.eptr [(pI ((nth l j).Kind)), (pI ((nth l j).Index))]), [], []⟩, .a, .a, .m (some 43) ⟨[(42, (vI ((nth l j).Index)))], [], (vB true), [], []⟩, .a, .a, .a, .a, .a, .a, .a, .a, .a] ⟨StepOK.p rfl rfl rfl (OpOK.indexP (e := 47) rfl (by kernel_rfl) (by kernel_rfl) rfl rfl rfl (map_nth (by omega))),
        StepOK.p rfl rfl rfl (OpOK.lss rfl rfl rfl (decide_eq_true hs13)), trivial⟩ [(2, a'7), (3, (.ref 1003 0)), (4, (.ref 1004 0)), (7, (vI ((j : Nat) : Int))), (52, (vB true))] [(1003, a'8), (1004, a'9)] (by kernel_rfl) (by kernel_rfl) ?_
       refine AWp.cond_true rfl ?_
       refine AWp.s_reg hGn hGk (aa 1) (Man.aa _ _) [(6, (vI 3))] [] (by kernel_rfl) (by kernel_rfl) ?_
       refine AWp.ret ?_
       refine blockQ_ret ?_
       refine nextQ_ret ?_
       refine nextQ_ret ?_
       refine blockQ_ret ?_
       refine nextQ_ret ?_
       refine fin_of (.inr rfl) (v := (vI 3)) (Res.tmp rfl rfl) (h' := []) rfl rfl ?_
       exact ⟨by rw [show targetsErr c.People.length c.Schedules.length b.Teams.length l = 3 from by unfold targetsErr; rw [if_neg (by omega)]; exact firstN_err hz (by omega) (by rw [target_eq, if_neg (by omega)]) (by decide)], rfl⟩
      ·skip
       first | refine AWp.cast (show (mk [(2, (.p (.sl false 2 (l.map D.Target.cells)))), (3, (.ref 1003 0)), (4, (.ref 1004 0)), (7, (vI ((j : Nat) : Int))), (8, (vI (-1))), (33, (vB (decide (((nth l j).Kind) = (2 : Int)))))] [(1003, (.box [(.p (.sl false 3 (c.Zones.map D.Zone.cells))), (.p (.sl false 6 (c.People.map D.Person.cells))), (.p (.sl false 3 (c.Calendars.map D.Calendar.cells))), (.p (.sl false 3 (c.Schedules.map D.Schedule.cells)))])), (1004, (.box [(.p (.sl false 2 (b.Teams.map D.Team.cells))), (.p (.sl false 3 (b.Policies.map D.Policy.cells)))]))]) = (mk [(2, (.p (.sl false 2 (l.map D.Target.cells)))), (3, (.ref 1003 0)), (4, (.ref 1004 0)), (7, (vI ((j : Nat) : Int))), (8, (vI (-1))), (33, (vB false))] [(1003, (.box [(.p (.sl false 3 (c.Zones.map D.Zone.cells))), (.p (.sl false 6 (c.People.map D.Person.cells))), (.p (.sl false 3 (c.Calendars.map D.Calendar.cells))), (.p (.sl false 3 (c.Schedules.map D.Schedule.cells)))])), (1004, (.box [(.p (.sl false 2 (b.Teams.map D.Team.cells))), (.p (.sl false 3 (b.Policies.map D.Policy.cells)))]))]) from by rw [(decide_eq_false hc10)]) ?_ | skip
       refine AWp.s_reg hGn hGk [.a, .a, .m (some 40) ⟨[(38, a'7), (39, (vI ((j : Nat) : Int)))], [], (.eptr [(pI ((nth l j).Kind)), (pI ((nth l j).Index))]), [], []⟩, .a, .a, .m (some 43) ⟨[(42, (vI ((nth l j).Index)))], [], (vB false), [], []⟩, .a, .a, .a, .m (some 47) ⟨[(45, a'7), (46, (vI ((j : Nat) : Int))), (44, (vB false))], [], (.eptr [(pI ((nth l j).Kind)), (pI ((nth l j).Index))]), [], []⟩, .a, .a, .a, .a, .a] ⟨StepOK.p rfl rfl rfl (OpOK.indexP (e := 47) rfl (by kernel_rfl) (by kernel_rfl) rfl rfl rfl (map_nth (by omega))),
        StepOK.p rfl rfl rfl (OpOK.lss rfl rfl rfl (decide_eq_false hs13)),
        StepOK.g rfl rfl rfl rfl rfl (by simp) (OpOK.indexP (e := 47) rfl (by kernel_rfl) (by kernel_rfl) rfl rfl rfl (map_nth (by omega))), trivial⟩ [(2, a'7), (3, (.ref 1003 0)), (4, (.ref 1004 0)), (7, (vI ((j : Nat) : Int))), (52, (vB (decide (((-1) : Int) ≤ ((nth l j).Index)))))] [(1003, a'8), (1004, a'9)] (by kernel_rfl) (by kernel_rfl) ?_
       refine AWp.cond (decide (((-1) : Int) ≤ ((nth l j).Index))) rfl (fun hc14 => ?_) (fun hc14 => ?_)
       ·skip
        replace hc14 := of_decide_eq_true hc14
        refine AWp.s_reg hGn hGk (aa 1) (Man.aa _ _) [(6, (vI 3))] [] (by kernel_rfl) (by kernel_rfl) ?_
        refine AWp.ret ?_
        refine blockQ_ret ?_
        refine nextQ_ret ?_
        refine nextQ_ret ?_
        refine blockQ_ret ?_
        refine nextQ_ret ?_
        refine fin_of (.inr rfl) (v := (vI 3)) (Res.tmp rfl rfl) (h' := []) rfl rfl ?_
        exact ⟨by rw [show targetsErr c.People.length c.Schedules.length b.Teams.length l = 3 from by unfold targetsErr; rw [if_neg (by omega)]; exact firstN_err hz (by omega) (by rw [target_eq, if_neg (by omega)]) (by decide)], rfl⟩
       ·skip
        replace hc14 := of_decide_eq_false hc14
        refine AWp.skip ?_
        refine blockQ_normal ?_
        refine nextQ_normal ?_
        refine AWp.reg' hGn hGk [.a, .m (some 17) ⟨[(16, (vI ((j : Nat) : Int)))], [], (vI ((j + 1 : Nat) : Int)), [], []⟩, .a] ⟨StepOK.p rfl rfl rfl (OpOK.add rfl rfl rfl (by rw [IntWalk.i64_in _ ⟨by omega, by omega⟩]; omega)), trivial⟩ [(2, a'7), (3, (.ref 1003 0)), (4, (.ref 1004 0)), (7, (vI ((j + 1 : Nat) : Int)))] [(1003, a'8), (1004, a'9)] (by kernel_rfl) (by kernel_rfl) ?_
        refine nextQ_normal ⟨_, ?_, (j + 1), rfl, (by omega), (firstN_step hz (by rw [target_eq, if_pos (by omega)])), rfl⟩
        · omega
  ·skip
   replace hc3 := of_decide_eq_false hc3
   refine AWp.weaken (mk [] []) (Weak.sub' hGk (by kernel_rfl)) ?_
   refine AWp.exit ?_
   refine nextQ_exit ?_
   refine nextQ_exit ?_
   refine blockQ_exit ?_
   refine nextQ_normal ?_
   refine AWp.s_reg hGn hGk (aa 1) (Man.aa _ _) [(6, (vI 0))] [] (by kernel_rfl) (by kernel_rfl) ?_
   refine AWp.ret ?_
   refine fin_of (.inr rfl) (v := (vI 0)) (Res.tmp rfl rfl) (h' := []) rfl rfl ?_
   exact ⟨by rw [show targetsErr c.People.length c.Schedules.length b.Teams.length l = 0 from by unfold targetsErr; rw [if_neg (by omega), show l.length = j by omega]; exact hz], rfl⟩

theorem ref_team (c : D.Config) (b : D.Book) (i : Nat) (hi : i < b.Teams.length) (hl : b.Teams.length ≤ 1000) (hm : (nth b.Teams i).Members.length ≤ 9223372036854775807) :
    SpecIs Tryz.prog 62 [(.agg [(.p (.sl false 3 (c.Zones.map D.Zone.cells))), (.p (.sl false 6 (c.People.map D.Person.cells))), (.p (.sl false 3 (c.Calendars.map D.Calendar.cells))), (.p (.sl false 3 (c.Schedules.map D.Schedule.cells)))]), (.agg [(.p (.sl false 2 (b.Teams.map D.Team.cells))), (.p (.sl false 3 (b.Policies.map D.Policy.cells)))]), (vI ((i : Nat) : Int))] [] (vI (teamErr c.People.length b i)) [] := by
 refine Spec.intro Tryz.func62 rfl (by kernel_rfl) ?_
 intro Γ hGn hGk
 replace hGn : Γ.n = 63 := hGn
 replace hGk : Γ.names = [] := hGk
 let a'1 : AV := (.p (.sl false 3 (c.Zones.map D.Zone.cells)))
 let a'2 : AV := (.p (.sl false 6 (c.People.map D.Person.cells)))
 let a'3 : AV := (.p (.sl false 3 (c.Calendars.map D.Calendar.cells)))
 let a'4 : AV := (.p (.sl false 3 (c.Schedules.map D.Schedule.cells)))
 let a'5 : AV := (.p (.sl false 2 (b.Teams.map D.Team.cells)))
 let a'6 : AV := (.p (.sl false 3 (b.Policies.map D.Policy.cells)))
 refine AWp.weaken (mk [(0, (.agg [a'1, a'2, a'3, a'4])), (1, (.agg [a'5, a'6])), (2, (vI ((i : Nat) : Int)))] []) (Weak.sub' hGk (by kernel_rfl)) ?_
 let a'7 : AO := (.box [a'1, a'2, a'3, a'4])
 let a'8 : AO := (.box [a'5, a'6])
 refine AWp.s_reg hGn hGk (aa 3) (Man.aa _ _) [(2, (vI ((i : Nat) : Int))), (3, (.ref 1003 0)), (4, (.ref 1004 0))] [(1003, a'7), (1004, a'8)] (by kernel_rfl) (by kernel_rfl) ?_
 let a'9 : AV := (.p (.sl false 1 (((nth b.Teams i).Members).map D.cInt)))
 let a'10 : AO := (.box [(vS ((nth b.Teams i).Name)), a'9])
 refine AWp.s_reg hGn hGk [.a, .a, .a, .m (some 13) ⟨[(11, a'5), (12, (vI ((i : Nat) : Int)))], [], (.eptr [(pS ((nth b.Teams i).Name)), (.sl false 1 (((nth b.Teams i).Members).map D.cInt))]), [], []⟩, .a, .a, .a] ⟨StepOK.p rfl rfl rfl (OpOK.indexP (e := 54) rfl (by kernel_rfl) (by kernel_rfl) rfl rfl rfl (map_nth (by omega))), trivial⟩ [(2, (vI ((i : Nat) : Int))), (3, (.ref 1003 0)), (4, (.ref 1004 0)), (7, (.ref 1007 0))] [(1003, a'7), (1004, a'8), (1007, a'10)] (by kernel_rfl) (by kernel_rfl) ?_
 refine AWp.seq ?_
 refine AWp.s_reg hGn hGk [.a, .a, .m (some 17) ⟨[(16, (vS ((nth b.Teams i).Name)))], [], (vB (nameOK ((nth b.Teams i).Name))), [], []⟩, .a] ⟨StepOK.p rfl rfl rfl (OpOK.call rfl (by kernel_rfl) rfl (r06_Name ((nth b.Teams i).Name)) (by kernel_rfl)), trivial⟩ [(2, (vI ((i : Nat) : Int))), (3, (.ref 1003 0)), (4, (.ref 1004 0)), (7, (.ref 1007 0)), (18, (vB (!(nameOK ((nth b.Teams i).Name)))))] [(1003, a'7), (1004, a'8), (1007, a'10)] (by kernel_rfl) (by kernel_rfl) ?_
 refine AWp.cond (!(nameOK ((nth b.Teams i).Name))) rfl (fun hc1 => ?_) (fun hc1 => ?_)
 ·skip
  replace hc1 : nameOK ((nth b.Teams i).Name) = false := by simpa using hc1
  refine AWp.s_reg hGn hGk (aa 1) (Man.aa _ _) [(6, (vI 8))] [] (by kernel_rfl) (by kernel_rfl) ?_
  refine AWp.ret ?_
  refine nextQ_ret ?_
  refine fin_of (.inr rfl) (v := (vI 8)) (Res.tmp rfl rfl) (h' := []) rfl rfl ?_
  exact ⟨by rw [show teamErr c.People.length b i = 8 from by unfold teamErr; rw [if_pos (by assumption)]], rfl⟩
 ·skip
  replace hc1 : nameOK ((nth b.Teams i).Name) = true := by simpa using hc1
  refine AWp.skip ?_
  refine nextQ_normal ?_
  refine AWp.seq ?_
  refine AWp.s_reg hGn hGk (aa 1) (Man.aa _ _) [(2, (vI ((i : Nat) : Int))), (3, (.ref 1003 0)), (4, (.ref 1004 0)), (7, (.ref 1007 0)), (8, (vI 0))] [(1003, a'7), (1004, a'8), (1007, a'10)] (by kernel_rfl) (by kernel_rfl) ?_
  refine AWp.block ?_
  refine AWp.loop (fun m s => ∃ j, s = (mk [(2, (vI ((i : Nat) : Int))), (3, (.ref 1003 0)), (4, (.ref 1004 0)), (7, (.ref 1007 0)), (8, (vI ((j : Nat) : Int)))] [(1003, (.box [(.p (.sl false 3 (c.Zones.map D.Zone.cells))), (.p (.sl false 6 (c.People.map D.Person.cells))), (.p (.sl false 3 (c.Calendars.map D.Calendar.cells))), (.p (.sl false 3 (c.Schedules.map D.Schedule.cells)))])), (1004, (.box [(.p (.sl false 2 (b.Teams.map D.Team.cells))), (.p (.sl false 3 (b.Policies.map D.Policy.cells)))])), (1007, (.box [(vS ((nth b.Teams i).Name)), (.p (.sl false 1 (((nth b.Teams i).Members).map D.cInt)))]))]) ∧ (j ≤ i) ∧ (∀ k, k < j → ¬ nth (tnames b) k = nth (tnames b) i) ∧ m = (i - j))
   ⟨_, 0, rfl, (by omega), (by intro k hk; omega), rfl⟩ ?_
  rintro mm2 s ⟨j, rfl, hj, hw, hmm2⟩
  refine AWp.seq ?_
  refine AWp.s_reg hGn hGk (aa 3) (Man.aa _ _) [(2, (vI ((i : Nat) : Int))), (3, (.ref 1003 0)), (4, (.ref 1004 0)), (7, (.ref 1007 0)), (8, (vI ((j : Nat) : Int))), (21, (vB (decide (((j : Nat) : Int) < ((i : Nat) : Int)))))] [(1003, a'7), (1004, a'8), (1007, a'10)] (by kernel_rfl) (by kernel_rfl) ?_
  refine AWp.cond (decide (((j : Nat) : Int) < ((i : Nat) : Int))) rfl (fun hc3 => ?_) (fun hc3 => ?_)
  ·skip
   replace hc3 := of_decide_eq_true hc3
   refine AWp.skip ?_
   refine nextQ_normal ?_
   refine AWp.seq ?_
   refine AWp.block ?_
   refine AWp.s_dreg hGn hGk (by kernel_rfl) [.a, .a, .a, .m (some 27) ⟨[(25, a'5), (26, (vI ((j : Nat) : Int)))], [], (.eptr [(pS ((nth b.Teams j).Name)), (.sl false 1 (((nth b.Teams j).Members).map D.cInt))]), [], []⟩, .a, .a, .a, .a, .a] ⟨StepOK.p rfl rfl rfl (OpOK.indexP (e := 54) rfl (by kernel_rfl) (by kernel_rfl) rfl rfl rfl (map_nth (by omega))), trivial⟩ [(2, (vI ((i : Nat) : Int))), (3, (.ref 1003 0)), (4, (.ref 1004 0)), (7, (.ref 1007 0)), (8, (vI ((j : Nat) : Int))), (32, (vB (decide (((nth b.Teams j).Name) = ((nth b.Teams i).Name)))))] [(1003, a'7), (1004, a'8), (1007, a'10)] (by kernel_rfl) (by kernel_rfl) (by kernel_rfl) ?_
   refine AWp.cond (decide (((nth b.Teams j).Name) = ((nth b.Teams i).Name))) rfl (fun hc4 => ?_) (fun hc4 => ?_)
   ·skip
    replace hc4 := of_decide_eq_true hc4
    refine AWp.s_reg hGn hGk (aa 1) (Man.aa _ _) [(6, (vI 4))] [] (by kernel_rfl) (by kernel_rfl) ?_
    refine AWp.ret ?_
    refine blockQ_ret ?_
    refine nextQ_ret ?_
    refine nextQ_ret ?_
    refine blockQ_ret ?_
    refine nextQ_ret ?_
    refine fin_of (.inr rfl) (v := (vI 4)) (Res.tmp rfl rfl) (h' := []) rfl rfl ?_
    exact ⟨by rw [show teamErr c.People.length b i = 4 from by unfold teamErr; rw [if_neg (by simp [*]), if_pos (earlierB_yes (k := j) (by omega) (by rw [tname_at (by omega), tname_at (by omega)]; assumption))]], rfl⟩
   ·skip
    replace hc4 := of_decide_eq_false hc4
    refine AWp.skip ?_
    refine blockQ_normal ?_
    refine nextQ_normal ?_
    refine AWp.reg' hGn hGk [.a, .m (some 23) ⟨[(22, (vI ((j : Nat) : Int)))], [], (vI ((j + 1 : Nat) : Int)), [], []⟩, .a] ⟨StepOK.p rfl rfl rfl (OpOK.add rfl rfl rfl (by rw [IntWalk.i64_in _ ⟨by omega, by omega⟩]; omega)), trivial⟩ [(2, (vI ((i : Nat) : Int))), (3, (.ref 1003 0)), (4, (.ref 1004 0)), (7, (.ref 1007 0)), (8, (vI ((j + 1 : Nat) : Int)))] [(1003, a'7), (1004, a'8), (1007, a'10)] (by kernel_rfl) (by kernel_rfl) ?_
    refine nextQ_normal ⟨_, ?_, (j + 1), rfl, (by omega), (fun k hk => by rcases Nat.lt_or_ge k j with h | h; exact hw k h; rw [show k = j from by omega, tname_at (by omega), tname_at (by omega)]; assumption), rfl⟩
    · omega
  ·skip
   replace hc3 := of_decide_eq_false hc3
   refine AWp.weaken (mk [(3, (.ref 1003 0)), (7, (.ref 1007 0))] [(1003, a'7), (1007, a'10)]) (Weak.sub' hGk (by kernel_rfl)) ?_
   refine AWp.exit ?_
   refine nextQ_exit ?_
   refine nextQ_exit ?_
   refine blockQ_exit ?_
   refine nextQ_normal ?_
   refine AWp.seq ?_
   refine AWp.s_reg hGn hGk [.a, .a, .m (some 35) ⟨[(34, a'9)], [], (vI ((((nth b.Teams i).Members).length : Nat) : Int)), [], []⟩, .a] ⟨StepOK.p rfl rfl rfl (OpOK.lenP (e := 3) rfl rfl (by kernel_rfl) rfl (by rw [List.length_map])), trivial⟩ [(3, (.ref 1003 0)), (7, (.ref 1007 0)), (36, (vB (decide (((((nth b.Teams i).Members).length : Nat) : Int) = (0 : Int)))))] [(1003, a'7), (1007, a'10)] (by kernel_rfl) (by kernel_rfl) ?_
   refine AWp.cond (decide (((((nth b.Teams i).Members).length : Nat) : Int) = (0 : Int))) rfl (fun hc5 => ?_) (fun hc5 => ?_)
   ·skip
    replace hc5 := of_decide_eq_true hc5
    refine AWp.s_reg hGn hGk (aa 1) (Man.aa _ _) [(6, (vI 7))] [] (by kernel_rfl) (by kernel_rfl) ?_
    refine AWp.ret ?_
    refine nextQ_ret ?_
    refine fin_of (.inr rfl) (v := (vI 7)) (Res.tmp rfl rfl) (h' := []) rfl rfl ?_
    exact ⟨by rw [show teamErr c.People.length b i = 7 from by unfold teamErr; rw [if_neg (by simp [*]), if_neg (by rw [earlierB_no (n := j) (by omega) hw]; simp)]; unfold setErr; rw [if_pos (by omega)]], rfl⟩
   ·skip
    replace hc5 := of_decide_eq_false hc5
    refine AWp.skip ?_
    refine nextQ_normal ?_
    refine AWp.seq ?_
    refine AWp.s_reg hGn hGk (aa 1) (Man.aa _ _) [(3, (.ref 1003 0)), (7, (.ref 1007 0)), (9, (vI 1))] [(1003, a'7), (1007, a'10)] (by kernel_rfl) (by kernel_rfl) ?_
    refine AWp.block ?_
    refine AWp.loop (fun m s => ∃ mi, s = (mk [(3, (.ref 1003 0)), (7, (.ref 1007 0)), (9, (vI ((mi : Nat) : Int)))] [(1003, (.box [(.p (.sl false 3 (c.Zones.map D.Zone.cells))), (.p (.sl false 6 (c.People.map D.Person.cells))), (.p (.sl false 3 (c.Calendars.map D.Calendar.cells))), (.p (.sl false 3 (c.Schedules.map D.Schedule.cells)))])), (1007, (.box [(vS ((nth b.Teams i).Name)), (.p (.sl false 1 (((nth b.Teams i).Members).map D.cInt)))]))]) ∧ (1 ≤ mi ∧ (mi ≤ (nth b.Teams i).Members.length ∨ mi = 1)) ∧ (∀ j, 1 ≤ j → j < mi → nth (nth b.Teams i).Members (j - 1) < nth (nth b.Teams i).Members j) ∧ m = ((nth b.Teams i).Members.length + 1 - mi))
     ⟨_, 1, rfl, (by omega), (by intro j hj; omega), rfl⟩ ?_
    rintro mm6 s ⟨mi, rfl, hm, ha, hmm6⟩
    refine AWp.seq ?_
    refine AWp.s_reg hGn hGk [.a, .a, .a, .m (some 40) ⟨[(39, a'9)], [], (vI ((((nth b.Teams i).Members).length : Nat) : Int)), [], []⟩, .a] ⟨StepOK.p rfl rfl rfl (OpOK.lenP (e := 3) rfl rfl (by kernel_rfl) rfl (by rw [List.length_map])), trivial⟩ [(3, (.ref 1003 0)), (7, (.ref 1007 0)), (9, (vI ((mi : Nat) : Int))), (41, (vB (decide (((mi : Nat) : Int) < ((((nth b.Teams i).Members).length : Nat) : Int)))))] [(1003, a'7), (1007, a'10)] (by kernel_rfl) (by kernel_rfl) ?_
    refine AWp.cond (decide (((mi : Nat) : Int) < ((((nth b.Teams i).Members).length : Nat) : Int))) rfl (fun hc7 => ?_) (fun hc7 => ?_)
    ·skip
     replace hc7 := of_decide_eq_true hc7
     refine AWp.skip ?_
     refine nextQ_normal ?_
     refine AWp.seq ?_
     refine AWp.block ?_
     refine AWp.s_dreg hGn hGk (by kernel_rfl) [.a, .a, .a, .m (some 47) ⟨[(46, (vI ((mi : Nat) : Int)))], [], (vI ((mi - 1 : Nat) : Int)), [], []⟩, .m (some 48) ⟨[(45, a'9), (47, (vI ((mi - 1 : Nat) : Int)))], [], (.eptr [(pI (nth ((nth b.Teams i).Members) (mi - 1)))]), [], []⟩, .a, .a, .a, .a, .m (some 53) ⟨[(51, a'9), (52, (vI ((mi : Nat) : Int)))], [], (.eptr [(pI (nth ((nth b.Teams i).Members) mi))]), [], []⟩, .a, .a] ⟨StepOK.p rfl rfl rfl (OpOK.sub rfl rfl rfl (by rw [IntWalk.i64_in _ ⟨by omega, by omega⟩]; omega)),
      StepOK.p rfl rfl rfl (OpOK.indexP (e := 3) rfl (by kernel_rfl) (by kernel_rfl) rfl rfl rfl (map_nth (by omega))),
      StepOK.p rfl rfl rfl (OpOK.indexP (e := 3) rfl (by kernel_rfl) (by kernel_rfl) rfl rfl rfl (map_nth (by omega))), trivial⟩ [(3, (.ref 1003 0)), (7, (.ref 1007 0)), (9, (vI ((mi : Nat) : Int))), (55, (vB (decide ((nth ((nth b.Teams i).Members) mi) ≤ (nth ((nth b.Teams i).Members) (mi - 1))))))] [(1003, a'7), (1007, a'10)] (by kernel_rfl) (by kernel_rfl) (by kernel_rfl) ?_
     refine AWp.cond (decide ((nth ((nth b.Teams i).Members) mi) ≤ (nth ((nth b.Teams i).Members) (mi - 1)))) rfl (fun hc8 => ?_) (fun hc8 => ?_)
     ·skip
      replace hc8 := of_decide_eq_true hc8
      refine AWp.s_reg hGn hGk (aa 1) (Man.aa _ _) [(6, (vI 6))] [] (by kernel_rfl) (by kernel_rfl) ?_
      refine AWp.ret ?_
      refine blockQ_ret ?_
      refine nextQ_ret ?_
      refine nextQ_ret ?_
      refine blockQ_ret ?_
      refine nextQ_ret ?_
      refine fin_of (.inr rfl) (v := (vI 6)) (Res.tmp rfl rfl) (h' := []) rfl rfl ?_
      exact ⟨by rw [show teamErr c.People.length b i = 6 from by unfold teamErr; rw [if_neg (by simp [*]), if_neg (by rw [earlierB_no (n := j) (by omega) hw]; simp)]; unfold setErr; rw [if_neg (by omega), if_pos (ascB_no (i := mi) (by omega) (by omega) (by omega))]], rfl⟩
     ·skip
      replace hc8 := of_decide_eq_false hc8
      refine AWp.skip ?_
      refine blockQ_normal ?_
      refine nextQ_normal ?_
      refine AWp.reg' hGn hGk [.a, .m (some 43) ⟨[(42, (vI ((mi : Nat) : Int)))], [], (vI ((mi + 1 : Nat) : Int)), [], []⟩, .a] ⟨StepOK.p rfl rfl rfl (OpOK.add rfl rfl rfl (by rw [IntWalk.i64_in _ ⟨by omega, by omega⟩]; omega)), trivial⟩ [(3, (.ref 1003 0)), (7, (.ref 1007 0)), (9, (vI ((mi + 1 : Nat) : Int)))] [(1003, a'7), (1007, a'10)] (by kernel_rfl) (by kernel_rfl) ?_
      refine nextQ_normal ⟨_, ?_, (mi + 1), rfl, (by omega), (fun j h1 hj => by rcases Nat.lt_or_ge j mi with h | h; exact ha j h1 h; rw [show j = mi from by omega]; omega), rfl⟩
      · omega
    ·skip
     replace hc7 := of_decide_eq_false hc7
     refine AWp.weaken (mk [(3, (.ref 1003 0)), (7, (.ref 1007 0))] [(1003, a'7), (1007, a'10)]) (Weak.sub' hGk (by kernel_rfl)) ?_
     refine AWp.exit ?_
     refine nextQ_exit ?_
     refine nextQ_exit ?_
     refine blockQ_exit ?_
     refine nextQ_normal ?_
     refine AWp.seq ?_
     refine AWp.s_reg hGn hGk [.a, .a, .a, .a, .m (some 60) ⟨[(59, a'2)], [], (vI ((c.People.length : Nat) : Int)), [], []⟩, .m (some 61) ⟨[(57, a'9), (60, (vI ((c.People.length : Nat) : Int)))], [], (vB (setB ((nth b.Teams i).Members) ((c.People.length : Nat) : Int))), [], []⟩, .a] ⟨StepOK.p rfl rfl rfl (OpOK.lenP (e := 73) rfl rfl (by kernel_rfl) rfl (by rw [List.length_map])),
      StepOK.p rfl rfl rfl (OpOK.call rfl (by kernel_rfl) rfl (ref_Set ((nth b.Teams i).Members) ((c.People.length : Nat) : Int) (by omega)) (by kernel_rfl)), trivial⟩ [(62, (vB (!(setB ((nth b.Teams i).Members) ((c.People.length : Nat) : Int)))))] [] (by kernel_rfl) (by kernel_rfl) ?_
     refine AWp.cond (!(setB ((nth b.Teams i).Members) ((c.People.length : Nat) : Int))) rfl (fun hc9 => ?_) (fun hc9 => ?_)
     ·skip
      replace hc9 : setB ((nth b.Teams i).Members) ((c.People.length : Nat) : Int) = false := by simpa using hc9
      refine AWp.s_reg hGn hGk (aa 1) (Man.aa _ _) [(6, (vI 3))] [] (by kernel_rfl) (by kernel_rfl) ?_
      refine AWp.ret ?_
      refine nextQ_ret ?_
      refine fin_of (.inr rfl) (v := (vI 3)) (Res.tmp rfl rfl) (h' := []) rfl rfl ?_
      exact ⟨by rw [show teamErr c.People.length b i = 3 from by unfold teamErr; rw [if_neg (by simp [*]), if_neg (by rw [earlierB_no (n := j) (by omega) hw]; simp), setErr_set (by omega) (ascB_yes (n := mi) (by omega) ha) (by assumption)]; rfl], rfl⟩
     ·skip
      replace hc9 : setB ((nth b.Teams i).Members) ((c.People.length : Nat) : Int) = true := by simpa using hc9
      refine AWp.skip ?_
      refine nextQ_normal ?_
      refine AWp.s_reg hGn hGk (aa 1) (Man.aa _ _) [(6, (vI 0))] [] (by kernel_rfl) (by kernel_rfl) ?_
      refine AWp.ret ?_
      refine fin_of (.inr rfl) (v := (vI 0)) (Res.tmp rfl rfl) (h' := []) rfl rfl ?_
      exact ⟨by rw [show teamErr c.People.length b i = 0 from by unfold teamErr; rw [if_neg (by simp [*]), if_neg (by rw [earlierB_no (n := j) (by omega) hw]; simp), setErr_set (by omega) (ascB_yes (n := mi) (by omega) ha) (by assumption)]; rfl], rfl⟩

theorem ref_policy (c : D.Config) (b : D.Book) (i : Nat) (hi : i < b.Policies.length) (hl : b.Policies.length ≤ 1000) :
    SpecIs Tryz.prog 63 [(.agg [(.p (.sl false 3 (c.Zones.map D.Zone.cells))), (.p (.sl false 6 (c.People.map D.Person.cells))), (.p (.sl false 3 (c.Calendars.map D.Calendar.cells))), (.p (.sl false 3 (c.Schedules.map D.Schedule.cells)))]), (.agg [(.p (.sl false 2 (b.Teams.map D.Team.cells))), (.p (.sl false 3 (b.Policies.map D.Policy.cells)))]), (vI ((i : Nat) : Int))] [] (vI (policyErr c.People.length c.Schedules.length b i)) [] := by
 refine Spec.intro Tryz.func63 rfl (by kernel_rfl) ?_
 intro Γ hGn hGk
 replace hGn : Γ.n = 76 := hGn
 replace hGk : Γ.names = [] := hGk
 let a'1 : AV := (.p (.sl false 3 (c.Zones.map D.Zone.cells)))
 let a'2 : AV := (.p (.sl false 6 (c.People.map D.Person.cells)))
 let a'3 : AV := (.p (.sl false 3 (c.Calendars.map D.Calendar.cells)))
 let a'4 : AV := (.p (.sl false 3 (c.Schedules.map D.Schedule.cells)))
 let a'5 : AV := (.p (.sl false 2 (b.Teams.map D.Team.cells)))
 let a'6 : AV := (.p (.sl false 3 (b.Policies.map D.Policy.cells)))
 refine AWp.weaken (mk [(0, (.agg [a'1, a'2, a'3, a'4])), (1, (.agg [a'5, a'6])), (2, (vI ((i : Nat) : Int)))] []) (Weak.sub' hGk (by kernel_rfl)) ?_
 let a'7 : AO := (.box [a'1, a'2, a'3, a'4])
 let a'8 : AO := (.box [a'5, a'6])
 refine AWp.s_reg hGn hGk (aa 3) (Man.aa _ _) [(2, (vI ((i : Nat) : Int))), (3, (.ref 1003 0)), (4, (.ref 1004 0))] [(1003, a'7), (1004, a'8)] (by kernel_rfl) (by kernel_rfl) ?_
 let a'9 : AV := (.p (.sl false 3 (((nth b.Policies i).Steps).map D.PolicyStep.cells)))
 let a'10 : AO := (.box [(vS ((nth b.Policies i).Name)), a'9, (vI ((nth b.Policies i).Repeat))])
 refine AWp.s_reg hGn hGk [.a, .a, .a, .m (some 14) ⟨[(12, a'6), (13, (vI ((i : Nat) : Int)))], [], (.eptr [(pS ((nth b.Policies i).Name)), (.sl false 3 (((nth b.Policies i).Steps).map D.PolicyStep.cells)), (pI ((nth b.Policies i).Repeat))]), [], []⟩, .a, .a, .a] ⟨StepOK.p rfl rfl rfl (OpOK.indexP (e := 59) rfl (by kernel_rfl) (by kernel_rfl) rfl rfl rfl (map_nth (by omega))), trivial⟩ [(2, (vI ((i : Nat) : Int))), (3, (.ref 1003 0)), (4, (.ref 1004 0)), (7, (.ref 1007 0))] [(1003, a'7), (1004, a'8), (1007, a'10)] (by kernel_rfl) (by kernel_rfl) ?_
 refine AWp.seq ?_
 refine AWp.s_reg hGn hGk [.a, .a, .m (some 18) ⟨[(17, (vS ((nth b.Policies i).Name)))], [], (vB (nameOK ((nth b.Policies i).Name))), [], []⟩, .a] ⟨StepOK.p rfl rfl rfl (OpOK.call rfl (by kernel_rfl) rfl (r06_Name ((nth b.Policies i).Name)) (by kernel_rfl)), trivial⟩ [(2, (vI ((i : Nat) : Int))), (3, (.ref 1003 0)), (4, (.ref 1004 0)), (7, (.ref 1007 0)), (19, (vB (!(nameOK ((nth b.Policies i).Name)))))] [(1003, a'7), (1004, a'8), (1007, a'10)] (by kernel_rfl) (by kernel_rfl) ?_
 refine AWp.cond (!(nameOK ((nth b.Policies i).Name))) rfl (fun hc1 => ?_) (fun hc1 => ?_)
 ·skip
  replace hc1 : nameOK ((nth b.Policies i).Name) = false := by simpa using hc1
  refine AWp.s_reg hGn hGk (aa 1) (Man.aa _ _) [(6, (vI 8))] [] (by kernel_rfl) (by kernel_rfl) ?_
  refine AWp.ret ?_
  refine nextQ_ret ?_
  refine fin_of (.inr rfl) (v := (vI 8)) (Res.tmp rfl rfl) (h' := []) rfl rfl ?_
  exact ⟨by rw [show policyErr c.People.length c.Schedules.length b i = 8 from by unfold policyErr; rw [if_pos (by assumption)]], rfl⟩
 ·skip
  replace hc1 : nameOK ((nth b.Policies i).Name) = true := by simpa using hc1
  refine AWp.skip ?_
  refine nextQ_normal ?_
  refine AWp.seq ?_
  refine AWp.s_reg hGn hGk (aa 1) (Man.aa _ _) [(2, (vI ((i : Nat) : Int))), (3, (.ref 1003 0)), (4, (.ref 1004 0)), (7, (.ref 1007 0)), (8, (vI 0))] [(1003, a'7), (1004, a'8), (1007, a'10)] (by kernel_rfl) (by kernel_rfl) ?_
  refine AWp.block ?_
  refine AWp.loop (fun m s => ∃ j, s = (mk [(2, (vI ((i : Nat) : Int))), (3, (.ref 1003 0)), (4, (.ref 1004 0)), (7, (.ref 1007 0)), (8, (vI ((j : Nat) : Int)))] [(1003, (.box [(.p (.sl false 3 (c.Zones.map D.Zone.cells))), (.p (.sl false 6 (c.People.map D.Person.cells))), (.p (.sl false 3 (c.Calendars.map D.Calendar.cells))), (.p (.sl false 3 (c.Schedules.map D.Schedule.cells)))])), (1004, (.box [(.p (.sl false 2 (b.Teams.map D.Team.cells))), (.p (.sl false 3 (b.Policies.map D.Policy.cells)))])), (1007, (.box [(vS ((nth b.Policies i).Name)), (.p (.sl false 3 (((nth b.Policies i).Steps).map D.PolicyStep.cells))), (vI ((nth b.Policies i).Repeat))]))]) ∧ (j ≤ i) ∧ (∀ k, k < j → ¬ nth (pnames b) k = nth (pnames b) i) ∧ m = (i - j))
   ⟨_, 0, rfl, (by omega), (by intro k hk; omega), rfl⟩ ?_
  rintro mm2 s ⟨j, rfl, hj, hw, hmm2⟩
  refine AWp.seq ?_
  refine AWp.s_reg hGn hGk (aa 3) (Man.aa _ _) [(2, (vI ((i : Nat) : Int))), (3, (.ref 1003 0)), (4, (.ref 1004 0)), (7, (.ref 1007 0)), (8, (vI ((j : Nat) : Int))), (22, (vB (decide (((j : Nat) : Int) < ((i : Nat) : Int)))))] [(1003, a'7), (1004, a'8), (1007, a'10)] (by kernel_rfl) (by kernel_rfl) ?_
  refine AWp.cond (decide (((j : Nat) : Int) < ((i : Nat) : Int))) rfl (fun hc3 => ?_) (fun hc3 => ?_)
  ·skip
   replace hc3 := of_decide_eq_true hc3
   refine AWp.skip ?_
   refine nextQ_normal ?_
   refine AWp.seq ?_
   refine AWp.block ?_
   refine AWp.s_dreg hGn hGk (by kernel_rfl) [.a, .a, .a, .m (some 28) ⟨[(26, a'6), (27, (vI ((j : Nat) : Int)))], [], (.eptr [(pS ((nth b.Policies j).Name)), (.sl false 3 (((nth b.Policies j).Steps).map D.PolicyStep.cells)), (pI ((nth b.Policies j).Repeat))]), [], []⟩, .a, .a, .a, .a, .a] ⟨StepOK.p rfl rfl rfl (OpOK.indexP (e := 59) rfl (by kernel_rfl) (by kernel_rfl) rfl rfl rfl (map_nth (by omega))), trivial⟩ [(2, (vI ((i : Nat) : Int))), (3, (.ref 1003 0)), (4, (.ref 1004 0)), (7, (.ref 1007 0)), (8, (vI ((j : Nat) : Int))), (33, (vB (decide (((nth b.Policies j).Name) = ((nth b.Policies i).Name)))))] [(1003, a'7), (1004, a'8), (1007, a'10)] (by kernel_rfl) (by kernel_rfl) (by kernel_rfl) ?_
   refine AWp.cond (decide (((nth b.Policies j).Name) = ((nth b.Policies i).Name))) rfl (fun hc4 => ?_) (fun hc4 => ?_)
   ·skip
    replace hc4 := of_decide_eq_true hc4
    refine AWp.s_reg hGn hGk (aa 1) (Man.aa _ _) [(6, (vI 4))] [] (by kernel_rfl) (by kernel_rfl) ?_
    refine AWp.ret ?_
    refine blockQ_ret ?_
    refine nextQ_ret ?_
    refine nextQ_ret ?_
    refine blockQ_ret ?_
    refine nextQ_ret ?_
    refine fin_of (.inr rfl) (v := (vI 4)) (Res.tmp rfl rfl) (h' := []) rfl rfl ?_
    exact ⟨by rw [show policyErr c.People.length c.Schedules.length b i = 4 from by unfold policyErr; rw [if_neg (by simp [*]), if_pos (earlierB_yes (k := j) (by omega) (by rw [pname_at (by omega), pname_at (by omega)]; assumption))]], rfl⟩
   ·skip
    replace hc4 := of_decide_eq_false hc4
    refine AWp.skip ?_
    refine blockQ_normal ?_
    refine nextQ_normal ?_
    refine AWp.reg' hGn hGk [.a, .m (some 24) ⟨[(23, (vI ((j : Nat) : Int)))], [], (vI ((j + 1 : Nat) : Int)), [], []⟩, .a] ⟨StepOK.p rfl rfl rfl (OpOK.add rfl rfl rfl (by rw [IntWalk.i64_in _ ⟨by omega, by omega⟩]; omega)), trivial⟩ [(2, (vI ((i : Nat) : Int))), (3, (.ref 1003 0)), (4, (.ref 1004 0)), (7, (.ref 1007 0)), (8, (vI ((j + 1 : Nat) : Int)))] [(1003, a'7), (1004, a'8), (1007, a'10)] (by kernel_rfl) (by kernel_rfl) ?_
    refine nextQ_normal ⟨_, ?_, (j + 1), rfl, (by omega), (fun k hk => by rcases Nat.lt_or_ge k j with h | h; exact hw k h; rw [show k = j from by omega, pname_at (by omega), pname_at (by omega)]; assumption), rfl⟩
    · omega
  ·skip
   replace hc3 := of_decide_eq_false hc3
   refine AWp.weaken (mk [(3, (.ref 1003 0)), (4, (.ref 1004 0)), (7, (.ref 1007 0))] [(1003, a'7), (1004, a'8), (1007, a'10)]) (Weak.sub' hGk (by kernel_rfl)) ?_
   refine AWp.exit ?_
   refine nextQ_exit ?_
   refine nextQ_exit ?_
   refine blockQ_exit ?_
   refine nextQ_normal ?_
   refine AWp.seq ?_
   refine AWp.block ?_
   refine AWp.s_reg hGn hGk [.a, .a, .m (some 37) ⟨[(36, a'9)], [], (vI ((((nth b.Policies i).Steps).length : Nat) : Int)), [], []⟩, .a, .a] ⟨StepOK.p rfl rfl rfl (OpOK.lenP (e := 56) rfl rfl (by kernel_rfl) rfl (by rw [List.length_map])), trivial⟩ [(3, (.ref 1003 0)), (4, (.ref 1004 0)), (7, (.ref 1007 0)), (34, (vB (decide (((((nth b.Policies i).Steps).length : Nat) : Int) = (0 : Int)))))] [(1003, a'7), (1004, a'8), (1007, a'10)] (by kernel_rfl) (by kernel_rfl) ?_
   refine AWp.cond (decide (((((nth b.Policies i).Steps).length : Nat) : Int) = (0 : Int))) rfl (fun hc5 => ?_) (fun hc5 => ?_)
   ·skip
    replace hc5 := of_decide_eq_true hc5
    refine AWp.s_reg hGn hGk (aa 1) (Man.aa _ _) [(6, (vI 7))] [] (by kernel_rfl) (by kernel_rfl) ?_
    refine AWp.ret ?_
    refine blockQ_ret ?_
    refine nextQ_ret ?_
    refine fin_of (.inr rfl) (v := (vI 7)) (Res.tmp rfl rfl) (h' := []) rfl rfl ?_
    exact ⟨by rw [show policyErr c.People.length c.Schedules.length b i = 7 from by unfold policyErr; rw [if_neg (by simp [*]), if_neg (by rw [earlierB_no (n := j) (by omega) hw]; simp), if_pos (by omega)]], rfl⟩
   ·skip
    replace hc5 := of_decide_eq_false hc5
    refine AWp.s_reg hGn hGk [.a, .a, .m (some 42) ⟨[(41, a'9)], [], (vI ((((nth b.Policies i).Steps).length : Nat) : Int)), [], []⟩, .a, .a] ⟨StepOK.p rfl rfl rfl (OpOK.lenP (e := 56) rfl rfl (by kernel_rfl) rfl (by rw [List.length_map])), trivial⟩ [(3, (.ref 1003 0)), (4, (.ref 1004 0)), (7, (.ref 1007 0)), (39, (vB (decide ((8 : Int) < ((((nth b.Policies i).Steps).length : Nat) : Int)))))] [(1003, a'7), (1004, a'8), (1007, a'10)] (by kernel_rfl) (by kernel_rfl) ?_
    refine AWp.cond (decide ((8 : Int) < ((((nth b.Policies i).Steps).length : Nat) : Int))) rfl (fun hc6 => ?_) (fun hc6 => ?_)
    ·skip
     replace hc6 := of_decide_eq_true hc6
     refine AWp.s_reg hGn hGk (aa 1) (Man.aa _ _) [(6, (vI 5))] [] (by kernel_rfl) (by kernel_rfl) ?_
     refine AWp.ret ?_
     refine blockQ_ret ?_
     refine nextQ_ret ?_
     refine fin_of (.inr rfl) (v := (vI 5)) (Res.tmp rfl rfl) (h' := []) rfl rfl ?_
     exact ⟨by rw [show policyErr c.People.length c.Schedules.length b i = 5 from by unfold policyErr; rw [if_neg (by simp [*]), if_neg (by rw [earlierB_no (n := j) (by omega) hw]; simp), if_neg (by omega), if_pos (by omega)]], rfl⟩
    ·skip
     replace hc6 := of_decide_eq_false hc6
     refine AWp.s_reg hGn hGk [.a, .a, .m (some 47) ⟨[(46, (vI ((nth b.Policies i).Repeat)))], [], (vB (inB ((nth b.Policies i).Repeat) (0 : Int) (8 : Int))), [], []⟩, .a, .a] ⟨StepOK.p rfl rfl rfl (OpOK.call rfl (by kernel_rfl) rfl (ref_In ((nth b.Policies i).Repeat) (0 : Int) (8 : Int)) (by kernel_rfl)), trivial⟩ [(3, (.ref 1003 0)), (4, (.ref 1004 0)), (7, (.ref 1007 0)), (44, (vB (!(inB ((nth b.Policies i).Repeat) (0 : Int) (8 : Int)))))] [(1003, a'7), (1004, a'8), (1007, a'10)] (by kernel_rfl) (by kernel_rfl) ?_
     refine AWp.cond (!(inB ((nth b.Policies i).Repeat) (0 : Int) (8 : Int))) rfl (fun hc7 => ?_) (fun hc7 => ?_)
     ·skip
      replace hc7 : inB ((nth b.Policies i).Repeat) (0 : Int) (8 : Int) = false := by simpa using hc7
      have ha8 := inB_false hc7
      refine AWp.s_reg hGn hGk (aa 1) (Man.aa _ _) [(6, (vI 1))] [] (by kernel_rfl) (by kernel_rfl) ?_
      refine AWp.ret ?_
      refine blockQ_ret ?_
      refine nextQ_ret ?_
      refine fin_of (.inr rfl) (v := (vI 1)) (Res.tmp rfl rfl) (h' := []) rfl rfl ?_
      exact ⟨by rw [show policyErr c.People.length c.Schedules.length b i = 1 from by unfold policyErr; rw [if_neg (by simp [*]), if_neg (by rw [earlierB_no (n := j) (by omega) hw]; simp), if_neg (by omega), if_neg (by omega), if_pos (by assumption)]], rfl⟩
     ·skip
      replace hc7 : inB ((nth b.Policies i).Repeat) (0 : Int) (8 : Int) = true := by simpa using hc7
      have ha9 := inB_spec hc7
      refine AWp.skip ?_
      refine blockQ_normal ?_
      refine nextQ_normal ?_
      refine AWp.seq ?_
      refine AWp.s_reg hGn hGk (aa 1) (Man.aa _ _) [(3, (.ref 1003 0)), (4, (.ref 1004 0)), (7, (.ref 1007 0)), (9, (vI 0))] [(1003, a'7), (1004, a'8), (1007, a'10)] (by kernel_rfl) (by kernel_rfl) ?_
      refine AWp.block ?_
      refine AWp.loop (fun m s => ∃ k, s = (mk [(3, (.ref 1003 0)), (4, (.ref 1004 0)), (7, (.ref 1007 0)), (9, (vI ((k : Nat) : Int)))] [(1003, (.box [(.p (.sl false 3 (c.Zones.map D.Zone.cells))), (.p (.sl false 6 (c.People.map D.Person.cells))), (.p (.sl false 3 (c.Calendars.map D.Calendar.cells))), (.p (.sl false 3 (c.Schedules.map D.Schedule.cells)))])), (1004, (.box [(.p (.sl false 2 (b.Teams.map D.Team.cells))), (.p (.sl false 3 (b.Policies.map D.Policy.cells)))])), (1007, (.box [(vS ((nth b.Policies i).Name)), (.p (.sl false 3 (((nth b.Policies i).Steps).map D.PolicyStep.cells))), (vI ((nth b.Policies i).Repeat))]))]) ∧ (k ≤ (nth b.Policies i).Steps.length) ∧ (firstN (fun k => stepErr c.People.length c.Schedules.length b.Teams.length (nth (nth b.Policies i).Steps k)) k = 0) ∧ m = ((nth b.Policies i).Steps.length - k))
       ⟨_, 0, rfl, (by omega), rfl, rfl⟩ ?_
      rintro mm10 s ⟨k, rfl, hk, hz, hmm10⟩
      refine AWp.seq ?_
      refine AWp.s_reg hGn hGk [.a, .a, .a, .m (some 52) ⟨[(51, a'9)], [], (vI ((((nth b.Policies i).Steps).length : Nat) : Int)), [], []⟩, .a] ⟨StepOK.p rfl rfl rfl (OpOK.lenP (e := 56) rfl rfl (by kernel_rfl) rfl (by rw [List.length_map])), trivial⟩ [(3, (.ref 1003 0)), (4, (.ref 1004 0)), (7, (.ref 1007 0)), (9, (vI ((k : Nat) : Int))), (53, (vB (decide (((k : Nat) : Int) < ((((nth b.Policies i).Steps).length : Nat) : Int)))))] [(1003, a'7), (1004, a'8), (1007, a'10)] (by kernel_rfl) (by kernel_rfl) ?_
      refine AWp.cond (decide (((k : Nat) : Int) < ((((nth b.Policies i).Steps).length : Nat) : Int))) rfl (fun hc11 => ?_) (fun hc11 => ?_)
      ·skip
       replace hc11 := of_decide_eq_true hc11
       refine AWp.skip ?_
       refine nextQ_normal ?_
       refine AWp.seq ?_
       refine AWp.block ?_
       refine AWp.seq ?_
       refine AWp.s_reg hGn hGk [.a, .a, .a, .m (some 59) ⟨[(57, a'9), (58, (vI ((k : Nat) : Int)))], [], (.eptr [(pI ((nth ((nth b.Policies i).Steps) k).Wait)), (pB ((nth ((nth b.Policies i).Steps) k).Urgent)), (.sl false 2 (((nth ((nth b.Policies i).Steps) k).Targets).map D.Target.cells))]), [], []⟩, .a, .a, .m (some 62) ⟨[(61, (vI ((nth ((nth b.Policies i).Steps) k).Wait)))], [], (vB (inB ((nth ((nth b.Policies i).Steps) k).Wait) (0 : Int) (86400 : Int))), [], []⟩, .a] ⟨StepOK.p rfl rfl rfl (OpOK.indexP (e := 56) rfl (by kernel_rfl) (by kernel_rfl) rfl rfl rfl (map_nth (by omega))),
        StepOK.p rfl rfl rfl (OpOK.call rfl (by kernel_rfl) rfl (ref_In ((nth ((nth b.Policies i).Steps) k).Wait) (0 : Int) (86400 : Int)) (by kernel_rfl)), trivial⟩ [(3, (.ref 1003 0)), (4, (.ref 1004 0)), (7, (.ref 1007 0)), (9, (vI ((k : Nat) : Int))), (63, (vB (!(inB ((nth ((nth b.Policies i).Steps) k).Wait) (0 : Int) (86400 : Int)))))] [(1003, a'7), (1004, a'8), (1007, a'10)] (by kernel_rfl) (by kernel_rfl) ?_
       refine AWp.cond (!(inB ((nth ((nth b.Policies i).Steps) k).Wait) (0 : Int) (86400 : Int))) rfl (fun hc12 => ?_) (fun hc12 => ?_)
       ·skip
        replace hc12 : inB ((nth ((nth b.Policies i).Steps) k).Wait) (0 : Int) (86400 : Int) = false := by simpa using hc12
        have ha13 := inB_false hc12
        refine AWp.s_reg hGn hGk (aa 1) (Man.aa _ _) [(6, (vI 1))] [] (by kernel_rfl) (by kernel_rfl) ?_
        refine AWp.ret ?_
        refine nextQ_ret ?_
        refine blockQ_ret ?_
        refine nextQ_ret ?_
        refine nextQ_ret ?_
        refine blockQ_ret ?_
        refine nextQ_ret ?_
        refine fin_of (.inr rfl) (v := (vI 1)) (Res.tmp rfl rfl) (h' := []) rfl rfl ?_
        exact ⟨by rw [show policyErr c.People.length c.Schedules.length b i = 1 from by unfold policyErr; rw [if_neg (by simp [*]), if_neg (by rw [earlierB_no (n := j) (by omega) hw]; simp), if_neg (by omega), if_neg (by omega), if_neg (by simp [*])]; exact firstN_err hz (by omega) (by unfold stepErr; rw [if_pos (by assumption)]) (by decide)], rfl⟩
       ·skip
        replace hc12 : inB ((nth ((nth b.Policies i).Steps) k).Wait) (0 : Int) (86400 : Int) = true := by simpa using hc12
        have ha14 := inB_spec hc12
        refine AWp.skip ?_
        refine nextQ_normal ?_
        refine AWp.s_dreg hGn hGk (by kernel_rfl) [.a, .a, .a, .a, .a, .m (some 69) ⟨[(67, a'9), (68, (vI ((k : Nat) : Int)))], [], (.eptr [(pI ((nth ((nth b.Policies i).Steps) k).Wait)), (pB ((nth ((nth b.Policies i).Steps) k).Urgent)), (.sl false 2 (((nth ((nth b.Policies i).Steps) k).Targets).map D.Target.cells))]), [], []⟩, .a, .a, .m (some 72) ⟨[(64, (.agg [a'1, a'2, a'3, a'4])), (65, (.agg [a'5, a'6])), (71, (.p (.sl false 2 (((nth ((nth b.Policies i).Steps) k).Targets).map D.Target.cells))))], [], (vI (targetsErr c.People.length c.Schedules.length b.Teams.length ((nth ((nth b.Policies i).Steps) k).Targets))), [], []⟩, .a] ⟨StepOK.p rfl rfl rfl (OpOK.indexP (e := 56) rfl (by kernel_rfl) (by kernel_rfl) rfl rfl rfl (map_nth (by omega))),
         StepOK.p rfl rfl rfl (OpOK.call rfl (by kernel_rfl) rfl (ref_targets c b ((nth ((nth b.Policies i).Steps) k).Targets)) (by kernel_rfl)), trivial⟩ [(3, (.ref 1003 0)), (4, (.ref 1004 0)), (7, (.ref 1007 0)), (9, (vI ((k : Nat) : Int))), (10, (vI (targetsErr c.People.length c.Schedules.length b.Teams.length ((nth ((nth b.Policies i).Steps) k).Targets))))] [(1003, a'7), (1004, a'8), (1007, a'10)] (by kernel_rfl) (by kernel_rfl) (by kernel_rfl) ?_
        refine AWp.s_reg hGn hGk (aa 2) (Man.aa _ _) [(3, (.ref 1003 0)), (4, (.ref 1004 0)), (7, (.ref 1007 0)), (9, (vI ((k : Nat) : Int))), (10, (vI (targetsErr c.People.length c.Schedules.length b.Teams.length ((nth ((nth b.Policies i).Steps) k).Targets)))), (74, (vB (decide ((targetsErr c.People.length c.Schedules.length b.Teams.length ((nth ((nth b.Policies i).Steps) k).Targets)) ≠ (0 : Int)))))] [(1003, a'7), (1004, a'8), (1007, a'10)] (by kernel_rfl) (by kernel_rfl) ?_
        refine AWp.cond (decide ((targetsErr c.People.length c.Schedules.length b.Teams.length ((nth ((nth b.Policies i).Steps) k).Targets)) ≠ (0 : Int))) rfl (fun hc15 => ?_) (fun hc15 => ?_)
        ·skip
         replace hc15 := of_decide_eq_true hc15
         refine AWp.s_reg hGn hGk (aa 2) (Man.aa _ _) [(6, (vI (targetsErr c.People.length c.Schedules.length b.Teams.length ((nth ((nth b.Policies i).Steps) k).Targets))))] [] (by kernel_rfl) (by kernel_rfl) ?_
         refine AWp.ret ?_
         refine blockQ_ret ?_
         refine nextQ_ret ?_
         refine nextQ_ret ?_
         refine blockQ_ret ?_
         refine nextQ_ret ?_
         refine fin_of (.inr rfl) (v := (vI (targetsErr c.People.length c.Schedules.length b.Teams.length ((nth ((nth b.Policies i).Steps) k).Targets)))) (Res.tmp rfl rfl) (h' := []) rfl rfl ?_
         exact ⟨by rw [show policyErr c.People.length c.Schedules.length b i = targetsErr c.People.length c.Schedules.length b.Teams.length ((nth ((nth b.Policies i).Steps) k).Targets) from by unfold policyErr; rw [if_neg (by simp [*]), if_neg (by rw [earlierB_no (n := j) (by omega) hw]; simp), if_neg (by omega), if_neg (by omega), if_neg (by simp [*])]; exact firstN_err hz (by omega) (by unfold stepErr; rw [if_neg (by simp [*])]) (by assumption)], rfl⟩
        ·skip
         replace hc15 := of_decide_eq_false hc15
         refine AWp.skip ?_
         refine blockQ_normal ?_
         refine nextQ_normal ?_
         refine AWp.reg' hGn hGk [.a, .m (some 55) ⟨[(54, (vI ((k : Nat) : Int)))], [], (vI ((k + 1 : Nat) : Int)), [], []⟩, .a] ⟨StepOK.p rfl rfl rfl (OpOK.add rfl rfl rfl (by rw [IntWalk.i64_in _ ⟨by omega, by omega⟩]; omega)), trivial⟩ [(3, (.ref 1003 0)), (4, (.ref 1004 0)), (7, (.ref 1007 0)), (9, (vI ((k + 1 : Nat) : Int)))] [(1003, a'7), (1004, a'8), (1007, a'10)] (by kernel_rfl) (by kernel_rfl) ?_
         refine nextQ_normal ⟨_, ?_, (k + 1), rfl, (by omega), (firstN_step hz (by unfold stepErr; rw [if_neg (by simp [*])]; first | assumption | omega)), rfl⟩
         · omega
      ·skip
       replace hc11 := of_decide_eq_false hc11
       refine AWp.weaken (mk [] []) (Weak.sub' hGk (by kernel_rfl)) ?_
       refine AWp.exit ?_
       refine nextQ_exit ?_
       refine nextQ_exit ?_
       refine blockQ_exit ?_
       refine nextQ_normal ?_
       refine AWp.s_reg hGn hGk (aa 1) (Man.aa _ _) [(6, (vI 0))] [] (by kernel_rfl) (by kernel_rfl) ?_
       refine AWp.ret ?_
       refine fin_of (.inr rfl) (v := (vI 0)) (Res.tmp rfl rfl) (h' := []) rfl rfl ?_
       exact ⟨by rw [show policyErr c.People.length c.Schedules.length b i = 0 from by unfold policyErr; rw [if_neg (by simp [*]), if_neg (by rw [earlierB_no (n := j) (by omega) hw]; simp), if_neg (by omega), if_neg (by omega), if_neg (by simp [*]), show (nth b.Policies i).Steps.length = k by omega]; exact hz], rfl⟩

theorem ref_book (c : D.Config) (b : D.Book) (hM : ∀ t ∈ b.Teams, t.Members.length ≤ 9223372036854775807) :
    SpecIs Tryz.prog 32 [(.agg [(.p (.sl false 3 (c.Zones.map D.Zone.cells))), (.p (.sl false 6 (c.People.map D.Person.cells))), (.p (.sl false 3 (c.Calendars.map D.Calendar.cells))), (.p (.sl false 3 (c.Schedules.map D.Schedule.cells)))]), (.agg [(.p (.sl false 2 (b.Teams.map D.Team.cells))), (.p (.sl false 3 (b.Policies.map D.Policy.cells)))])] [] (vI (bookErr c.People.length c.Schedules.length b)) [] := by
 refine Spec.intro Tryz.func32 rfl (by kernel_rfl) ?_
 intro Γ hGn hGk
 replace hGn : Γ.n = 47 := hGn
 replace hGk : Γ.names = [] := hGk
 let a'1 : AV := (.p (.sl false 3 (c.Zones.map D.Zone.cells)))
 let a'2 : AV := (.p (.sl false 6 (c.People.map D.Person.cells)))
 let a'3 : AV := (.p (.sl false 3 (c.Calendars.map D.Calendar.cells)))
 let a'4 : AV := (.p (.sl false 3 (c.Schedules.map D.Schedule.cells)))
 let a'5 : AV := (.agg [a'1, a'2, a'3, a'4])
 let a'6 : AV := (.p (.sl false 2 (b.Teams.map D.Team.cells)))
 let a'7 : AV := (.p (.sl false 3 (b.Policies.map D.Policy.cells)))
 let a'8 : AV := (.agg [a'6, a'7])
 refine AWp.weaken (mk [(0, a'5), (1, a'8)] []) (Weak.sub' hGk (by kernel_rfl)) ?_
 let a'9 : AO := (.box [a'1, a'2, a'3, a'4])
 let a'10 : AO := (.box [a'6, a'7])
 refine AWp.s_reg hGn hGk (aa 3) (Man.aa _ _) [(2, (.ref 1002 0)), (3, (.ref 1003 0))] [(1002, a'9), (1003, a'10)] (by kernel_rfl) (by kernel_rfl) ?_
 refine AWp.seq ?_
 by_cases hs1 : (8 : Int) < ((b.Teams.length : Nat) : Int)
 ·skip
  refine AWp.s_reg hGn hGk [.a, .a, .m (some 11) ⟨[(10, a'6)], [], (vI ((b.Teams.length : Nat) : Int)), [], []⟩, .m (some 12) ⟨[(11, (vI ((b.Teams.length : Nat) : Int)))], [], (vB true), [], []⟩, .a, .a, .a, .a, .a, .a] ⟨StepOK.p rfl rfl rfl (OpOK.lenP (e := 54) rfl rfl (by kernel_rfl) rfl (by rw [List.length_map])),
   StepOK.p rfl rfl rfl (OpOK.gtr rfl rfl rfl (decide_eq_true hs1)), trivial⟩ [(2, (.ref 1002 0)), (3, (.ref 1003 0)), (18, (vB true))] [(1002, a'9), (1003, a'10)] (by kernel_rfl) (by kernel_rfl) ?_
  refine AWp.cond_true rfl ?_
  refine AWp.s_reg hGn hGk (aa 1) (Man.aa _ _) [(4, (vI 5))] [] (by kernel_rfl) (by kernel_rfl) ?_
  refine AWp.ret ?_
  refine nextQ_ret ?_
  refine fin_of (.inr rfl) (v := (vI 5)) (Res.tmp rfl rfl) (h' := []) rfl rfl ?_
  exact ⟨by rw [show bookErr c.People.length c.Schedules.length b = 5 from by unfold bookErr; rw [if_pos (by omega)]], rfl⟩
 ·skip
  refine AWp.s_reg hGn hGk [.a, .a, .m (some 11) ⟨[(10, a'6)], [], (vI ((b.Teams.length : Nat) : Int)), [], []⟩, .m (some 12) ⟨[(11, (vI ((b.Teams.length : Nat) : Int)))], [], (vB false), [], []⟩, .a, .a, .a, .m (some 16) ⟨[(15, a'7), (13, (vB false))], [], (vI ((b.Policies.length : Nat) : Int)), [], []⟩, .a, .a] ⟨StepOK.p rfl rfl rfl (OpOK.lenP (e := 54) rfl rfl (by kernel_rfl) rfl (by rw [List.length_map])),
   StepOK.p rfl rfl rfl (OpOK.gtr rfl rfl rfl (decide_eq_false hs1)),
   StepOK.g rfl rfl rfl rfl rfl (by simp) (OpOK.lenP (e := 59) rfl rfl (by kernel_rfl) rfl (by rw [List.length_map])), trivial⟩ [(2, (.ref 1002 0)), (3, (.ref 1003 0)), (18, (vB (decide ((12 : Int) < ((b.Policies.length : Nat) : Int)))))] [(1002, a'9), (1003, a'10)] (by kernel_rfl) (by kernel_rfl) ?_
  refine AWp.cond (decide ((12 : Int) < ((b.Policies.length : Nat) : Int))) rfl (fun hc2 => ?_) (fun hc2 => ?_)
  ·skip
   replace hc2 := of_decide_eq_true hc2
   refine AWp.s_reg hGn hGk (aa 1) (Man.aa _ _) [(4, (vI 5))] [] (by kernel_rfl) (by kernel_rfl) ?_
   refine AWp.ret ?_
   refine nextQ_ret ?_
   refine fin_of (.inr rfl) (v := (vI 5)) (Res.tmp rfl rfl) (h' := []) rfl rfl ?_
   exact ⟨by rw [show bookErr c.People.length c.Schedules.length b = 5 from by unfold bookErr; rw [if_pos (by omega)]], rfl⟩
  ·skip
   replace hc2 := of_decide_eq_false hc2
   refine AWp.skip ?_
   refine nextQ_normal ?_
   refine AWp.seq ?_
   refine AWp.s_reg hGn hGk (aa 1) (Man.aa _ _) [(2, (.ref 1002 0)), (3, (.ref 1003 0)), (5, (vI 0))] [(1002, a'9), (1003, a'10)] (by kernel_rfl) (by kernel_rfl) ?_
   refine AWp.block ?_
   refine AWp.loop (fun m s => ∃ i, s = (mk [(2, (.ref 1002 0)), (3, (.ref 1003 0)), (5, (vI ((i : Nat) : Int)))] [(1002, (.box [(.p (.sl false 3 (c.Zones.map D.Zone.cells))), (.p (.sl false 6 (c.People.map D.Person.cells))), (.p (.sl false 3 (c.Calendars.map D.Calendar.cells))), (.p (.sl false 3 (c.Schedules.map D.Schedule.cells)))])), (1003, (.box [(.p (.sl false 2 (b.Teams.map D.Team.cells))), (.p (.sl false 3 (b.Policies.map D.Policy.cells)))]))]) ∧ (i ≤ b.Teams.length) ∧ (firstN (teamErr c.People.length b) i = 0) ∧ m = (b.Teams.length - i))
    ⟨_, 0, rfl, (by omega), rfl, rfl⟩ ?_
   rintro mm3 s ⟨i, rfl, hi, hz, hmm3⟩
   refine AWp.seq ?_
   refine AWp.s_reg hGn hGk [.a, .a, .a, .m (some 22) ⟨[(21, a'6)], [], (vI ((b.Teams.length : Nat) : Int)), [], []⟩, .a] ⟨StepOK.p rfl rfl rfl (OpOK.lenP (e := 54) rfl rfl (by kernel_rfl) rfl (by rw [List.length_map])), trivial⟩ [(2, (.ref 1002 0)), (3, (.ref 1003 0)), (5, (vI ((i : Nat) : Int))), (23, (vB (decide (((i : Nat) : Int) < ((b.Teams.length : Nat) : Int)))))] [(1002, a'9), (1003, a'10)] (by kernel_rfl) (by kernel_rfl) ?_
   refine AWp.cond (decide (((i : Nat) : Int) < ((b.Teams.length : Nat) : Int))) rfl (fun hc4 => ?_) (fun hc4 => ?_)
   ·skip
    replace hc4 := of_decide_eq_true hc4
    refine AWp.skip ?_
    refine nextQ_normal ?_
    refine AWp.seq ?_
    refine AWp.block ?_
    refine AWp.s_reg hGn hGk [.a, .a, .a, .m (some 29) ⟨[(26, a'5), (27, a'8), (28, (vI ((i : Nat) : Int)))], [], (vI (teamErr c.People.length b i)), [], []⟩, .a] ⟨StepOK.p rfl rfl rfl (OpOK.call rfl (by kernel_rfl) rfl (ref_team c b i (by omega) (by omega) (hM _ (nth_mem (by omega)))) (by kernel_rfl)), trivial⟩ [(2, (.ref 1002 0)), (3, (.ref 1003 0)), (5, (vI ((i : Nat) : Int))), (6, (vI (teamErr c.People.length b i)))] [(1002, a'9), (1003, a'10)] (by kernel_rfl) (by kernel_rfl) ?_
    refine AWp.s_reg hGn hGk (aa 2) (Man.aa _ _) [(2, (.ref 1002 0)), (3, (.ref 1003 0)), (5, (vI ((i : Nat) : Int))), (6, (vI (teamErr c.People.length b i))), (31, (vB (decide ((teamErr c.People.length b i) ≠ (0 : Int)))))] [(1002, a'9), (1003, a'10)] (by kernel_rfl) (by kernel_rfl) ?_
    refine AWp.cond (decide ((teamErr c.People.length b i) ≠ (0 : Int))) rfl (fun hc5 => ?_) (fun hc5 => ?_)
    ·skip
     replace hc5 := of_decide_eq_true hc5
     refine AWp.s_reg hGn hGk (aa 2) (Man.aa _ _) [(4, (vI (teamErr c.People.length b i)))] [] (by kernel_rfl) (by kernel_rfl) ?_
     refine AWp.ret ?_
     refine blockQ_ret ?_
     refine nextQ_ret ?_
     refine nextQ_ret ?_
     refine blockQ_ret ?_
     refine nextQ_ret ?_
     refine fin_of (.inr rfl) (v := (vI (teamErr c.People.length b i))) (Res.tmp rfl rfl) (h' := []) rfl rfl ?_
     exact ⟨by rw [show bookErr c.People.length c.Schedules.length b = teamErr c.People.length b i from by unfold bookErr; rw [if_neg (by omega)]; have h1 := firstN_err (n := b.Teams.length) hz (by omega) rfl (by assumption); rw [h1, if_neg (by assumption)]], rfl⟩
    ·skip
     replace hc5 := of_decide_eq_false hc5
     refine AWp.skip ?_
     refine blockQ_normal ?_
     refine nextQ_normal ?_
     refine AWp.reg' hGn hGk [.a, .m (some 25) ⟨[(24, (vI ((i : Nat) : Int)))], [], (vI ((i + 1 : Nat) : Int)), [], []⟩, .a] ⟨StepOK.p rfl rfl rfl (OpOK.add rfl rfl rfl (by rw [IntWalk.i64_in _ ⟨by omega, by omega⟩]; omega)), trivial⟩ [(2, (.ref 1002 0)), (3, (.ref 1003 0)), (5, (vI ((i + 1 : Nat) : Int)))] [(1002, a'9), (1003, a'10)] (by kernel_rfl) (by kernel_rfl) ?_
     refine nextQ_normal ⟨_, ?_, (i + 1), rfl, (by omega), (firstN_step hz (by first | assumption | omega)), rfl⟩
     · omega
   ·skip
    replace hc4 := of_decide_eq_false hc4
    refine AWp.weaken (mk [(2, (.ref 1002 0)), (3, (.ref 1003 0))] [(1002, a'9), (1003, a'10)]) (Weak.sub' hGk (by kernel_rfl)) ?_
    refine AWp.exit ?_
    refine nextQ_exit ?_
    refine nextQ_exit ?_
    refine blockQ_exit ?_
    refine nextQ_normal ?_
    refine AWp.seq ?_
    refine AWp.s_reg hGn hGk (aa 1) (Man.aa _ _) [(2, (.ref 1002 0)), (3, (.ref 1003 0)), (7, (vI 0))] [(1002, a'9), (1003, a'10)] (by kernel_rfl) (by kernel_rfl) ?_
    refine AWp.block ?_
    refine AWp.loop (fun m s => ∃ k, s = (mk [(2, (.ref 1002 0)), (3, (.ref 1003 0)), (7, (vI ((k : Nat) : Int)))] [(1002, (.box [(.p (.sl false 3 (c.Zones.map D.Zone.cells))), (.p (.sl false 6 (c.People.map D.Person.cells))), (.p (.sl false 3 (c.Calendars.map D.Calendar.cells))), (.p (.sl false 3 (c.Schedules.map D.Schedule.cells)))])), (1003, (.box [(.p (.sl false 2 (b.Teams.map D.Team.cells))), (.p (.sl false 3 (b.Policies.map D.Policy.cells)))]))]) ∧ (k ≤ b.Policies.length) ∧ (firstN (policyErr c.People.length c.Schedules.length b) k = 0) ∧ m = (b.Policies.length - k))
     ⟨_, 0, rfl, (by omega), rfl, rfl⟩ ?_
    rintro mm6 s ⟨k, rfl, hk, hy, hmm6⟩
    refine AWp.seq ?_
    refine AWp.s_reg hGn hGk [.a, .a, .a, .m (some 36) ⟨[(35, a'7)], [], (vI ((b.Policies.length : Nat) : Int)), [], []⟩, .a] ⟨StepOK.p rfl rfl rfl (OpOK.lenP (e := 59) rfl rfl (by kernel_rfl) rfl (by rw [List.length_map])), trivial⟩ [(2, (.ref 1002 0)), (3, (.ref 1003 0)), (7, (vI ((k : Nat) : Int))), (37, (vB (decide (((k : Nat) : Int) < ((b.Policies.length : Nat) : Int)))))] [(1002, a'9), (1003, a'10)] (by kernel_rfl) (by kernel_rfl) ?_
    refine AWp.cond (decide (((k : Nat) : Int) < ((b.Policies.length : Nat) : Int))) rfl (fun hc7 => ?_) (fun hc7 => ?_)
    ·skip
     replace hc7 := of_decide_eq_true hc7
     refine AWp.skip ?_
     refine nextQ_normal ?_
     refine AWp.seq ?_
     refine AWp.block ?_
     refine AWp.s_reg hGn hGk [.a, .a, .a, .m (some 43) ⟨[(40, a'5), (41, a'8), (42, (vI ((k : Nat) : Int)))], [], (vI (policyErr c.People.length c.Schedules.length b k)), [], []⟩, .a] ⟨StepOK.p rfl rfl rfl (OpOK.call rfl (by kernel_rfl) rfl (ref_policy c b k (by omega) (by omega)) (by kernel_rfl)), trivial⟩ [(2, (.ref 1002 0)), (3, (.ref 1003 0)), (7, (vI ((k : Nat) : Int))), (8, (vI (policyErr c.People.length c.Schedules.length b k)))] [(1002, a'9), (1003, a'10)] (by kernel_rfl) (by kernel_rfl) ?_
     refine AWp.s_reg hGn hGk (aa 2) (Man.aa _ _) [(2, (.ref 1002 0)), (3, (.ref 1003 0)), (7, (vI ((k : Nat) : Int))), (8, (vI (policyErr c.People.length c.Schedules.length b k))), (45, (vB (decide ((policyErr c.People.length c.Schedules.length b k) ≠ (0 : Int)))))] [(1002, a'9), (1003, a'10)] (by kernel_rfl) (by kernel_rfl) ?_
     refine AWp.cond (decide ((policyErr c.People.length c.Schedules.length b k) ≠ (0 : Int))) rfl (fun hc8 => ?_) (fun hc8 => ?_)
     ·skip
      replace hc8 := of_decide_eq_true hc8
      refine AWp.s_reg hGn hGk (aa 2) (Man.aa _ _) [(4, (vI (policyErr c.People.length c.Schedules.length b k)))] [] (by kernel_rfl) (by kernel_rfl) ?_
      refine AWp.ret ?_
      refine blockQ_ret ?_
      refine nextQ_ret ?_
      refine nextQ_ret ?_
      refine blockQ_ret ?_
      refine nextQ_ret ?_
      refine fin_of (.inr rfl) (v := (vI (policyErr c.People.length c.Schedules.length b k))) (Res.tmp rfl rfl) (h' := []) rfl rfl ?_
      exact ⟨by rw [show bookErr c.People.length c.Schedules.length b = policyErr c.People.length c.Schedules.length b k from by unfold bookErr; rw [if_neg (by omega), show b.Teams.length = i by omega, if_pos hz]; exact firstN_err hy (by omega) rfl (by assumption)], rfl⟩
     ·skip
      replace hc8 := of_decide_eq_false hc8
      refine AWp.skip ?_
      refine blockQ_normal ?_
      refine nextQ_normal ?_
      refine AWp.reg' hGn hGk [.a, .m (some 39) ⟨[(38, (vI ((k : Nat) : Int)))], [], (vI ((k + 1 : Nat) : Int)), [], []⟩, .a] ⟨StepOK.p rfl rfl rfl (OpOK.add rfl rfl rfl (by rw [IntWalk.i64_in _ ⟨by omega, by omega⟩]; omega)), trivial⟩ [(2, (.ref 1002 0)), (3, (.ref 1003 0)), (7, (vI ((k + 1 : Nat) : Int)))] [(1002, a'9), (1003, a'10)] (by kernel_rfl) (by kernel_rfl) ?_
      refine nextQ_normal ⟨_, ?_, (k + 1), rfl, (by omega), (firstN_step hy (by first | assumption | omega)), rfl⟩
      · omega
    ·skip
     replace hc7 := of_decide_eq_false hc7
     refine AWp.weaken (mk [] []) (Weak.sub' hGk (by kernel_rfl)) ?_
     refine AWp.exit ?_
     refine nextQ_exit ?_
     refine nextQ_exit ?_
     refine blockQ_exit ?_
     refine nextQ_normal ?_
     refine AWp.s_reg hGn hGk (aa 1) (Man.aa _ _) [(4, (vI 0))] [] (by kernel_rfl) (by kernel_rfl) ?_
     refine AWp.ret ?_
     refine fin_of (.inr rfl) (v := (vI 0)) (Res.tmp rfl rfl) (h' := []) rfl rfl ?_
     exact ⟨by rw [show bookErr c.People.length c.Schedules.length b = 0 from by unfold bookErr; rw [if_neg (by omega), show b.Teams.length = i by omega, if_pos hz, show b.Policies.length = k by omega]; exact hy], rfl⟩

theorem ref_Check (c : D.Config) (b : D.Book) (hM : ∀ t ∈ b.Teams, t.Members.length ≤ 9223372036854775807) (hcfg : SpecIs Tryz.prog 31 [(.agg [(.p (.sl false 3 (c.Zones.map D.Zone.cells))), (.p (.sl false 6 (c.People.map D.Person.cells))), (.p (.sl false 3 (c.Calendars.map D.Calendar.cells))), (.p (.sl false 3 (c.Schedules.map D.Schedule.cells)))])] [] (vI 0) []) :
    SpecIs Tryz.prog 12 [(.agg [(.p (.sl false 3 (c.Zones.map D.Zone.cells))), (.p (.sl false 6 (c.People.map D.Person.cells))), (.p (.sl false 3 (c.Calendars.map D.Calendar.cells))), (.p (.sl false 3 (c.Schedules.map D.Schedule.cells)))]), (.agg [(.p (.sl false 2 (b.Teams.map D.Team.cells))), (.p (.sl false 3 (b.Policies.map D.Policy.cells)))])] [] (vI (bookErr c.People.length c.Schedules.length b)) [] := by
 refine Spec.intro Tryz.func12 rfl (by kernel_rfl) ?_
 intro Γ hGn hGk
 replace hGn : Γ.n = 11 := hGn
 replace hGk : Γ.names = [] := hGk
 let a'1 : AV := (.p (.sl false 3 (c.Zones.map D.Zone.cells)))
 let a'2 : AV := (.p (.sl false 6 (c.People.map D.Person.cells)))
 let a'3 : AV := (.p (.sl false 3 (c.Calendars.map D.Calendar.cells)))
 let a'4 : AV := (.p (.sl false 3 (c.Schedules.map D.Schedule.cells)))
 let a'5 : AV := (.agg [a'1, a'2, a'3, a'4])
 let a'6 : AV := (.p (.sl false 2 (b.Teams.map D.Team.cells)))
 let a'7 : AV := (.p (.sl false 3 (b.Policies.map D.Policy.cells)))
 refine AWp.weaken (mk [(0, a'5), (1, (.agg [a'6, a'7]))] []) (Weak.sub' hGk (by kernel_rfl)) ?_
 refine AWp.s_reg hGn hGk (aa 3) (Man.aa _ _) [(2, (.ref 1002 0)), (3, (.ref 1003 0))] [(1002, (.box [a'1, a'2, a'3, a'4])), (1003, (.box [a'6, a'7]))] (by kernel_rfl) (by kernel_rfl) ?_
 refine AWp.seq ?_
 refine AWp.s_reg hGn hGk [.a, .m (some 6) ⟨[(5, a'5)], [], (vI 0), [], []⟩, .a] ⟨StepOK.p rfl rfl rfl (OpOK.call rfl (by kernel_rfl) rfl hcfg (by kernel_rfl)), trivial⟩ [(2, (.ref 1002 0)), (3, (.ref 1003 0)), (7, (vB false))] [(1002, (.box [a'1, a'2, a'3, a'4])), (1003, (.box [a'6, a'7]))] (by kernel_rfl) (by kernel_rfl) ?_
 refine AWp.cond_false rfl ?_
 refine AWp.skip ?_
 refine nextQ_normal ?_
 refine AWp.s_reg hGn hGk [.a, .a, .m (some 10) ⟨[(8, a'5), (9, (.agg [a'6, a'7]))], [], (vI (bookErr c.People.length c.Schedules.length b)), [], []⟩, .a] ⟨StepOK.p rfl rfl rfl (OpOK.call rfl (by kernel_rfl) rfl (ref_book c b hM) (by kernel_rfl)), trivial⟩ [(4, (vI (bookErr c.People.length c.Schedules.length b)))] [] (by kernel_rfl) (by kernel_rfl) ?_
 refine AWp.ret ?_
 refine fin_of (.inr rfl) (v := (vI (bookErr c.People.length c.Schedules.length b))) (Res.tmp rfl rfl) (h' := []) rfl rfl ?_
 exact ⟨rfl, rfl⟩
end Go.Proofs.YtnilcaihikfhbaaGreat
