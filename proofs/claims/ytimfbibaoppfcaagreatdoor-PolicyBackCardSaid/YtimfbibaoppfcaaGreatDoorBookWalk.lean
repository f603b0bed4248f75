/-
  The walks of the checks of books. Printed by wip/gen/pol.py.
-/
import Derived.Test.YtimfbibaoppfcaaGreatDoorNameWalk
set_option maxRecDepth 100000
set_option linter.unusedSimpArgs false
set_option linter.unusedVariables false
namespace Go.Proofs.YtimfbibaoppfcaaGreatDoor
open Go AM
theorem pol_tname (b : D.Book) (k : Nat) (hk : k < b.Teams.length) :
    SpecIs Tryz.prog 91 [(vI ((k : Nat) : Int)), (.ref 1003 0)] [(1003, (.box [(.p (.sl false 2 (b.Teams.map D.Team.cells))), (.p (.sl false 3 (b.Policies.map D.Policy.cells)))]))] (vS ((nth b.Teams k).Name)) [(1003, (.box [(.p (.sl false 2 (b.Teams.map D.Team.cells))), (.p (.sl false 3 (b.Policies.map D.Policy.cells)))]))] := by
 refine Spec.intro Tryz.func91 rfl (by kernel_rfl) ?_
 intro Γ hGn hGk
 replace hGn : Γ.n = 10 := hGn
 replace hGk : Γ.names = [1003] := hGk
 let a'1 : AV := (.p (.sl false 2 (b.Teams.map D.Team.cells)))
 let a'2 : AV := (.p (.sl false 3 (b.Policies.map D.Policy.cells)))
 let a'3 : AO := (.box [a'1, a'2])
 refine AWp.weaken (mk [(0, (vI ((k : Nat) : Int))), (1, (.ref 1003 0))] [(1003, a'3)]) (Weak.sub' hGk (by kernel_rfl)) ?_
 refine AWp.s_reg hGn hGk (aa 1) (Man.aa _ _) [(0, (vI ((k : Nat) : Int))), (1, (.ref 1003 0))] [(1003, a'3)] (by kernel_rfl) (by kernel_rfl) ?_
 refine AWp.s_reg hGn hGk [.a, .a, .a, .m (some 7) ⟨[(5, a'1), (6, (vI ((k : Nat) : Int)))], [], (.eptr [(pS ((nth b.Teams k).Name)), (.sl false 1 (((nth b.Teams k).Members).map D.cInt))]), [], []⟩, .a, .a, .a] ⟨StepOK.p rfl rfl rfl (OpOK.indexP (e := 111) rfl (by kernel_rfl) (by kernel_rfl) rfl rfl rfl (map_nth (by omega))), trivial⟩ [(3, (vS ((nth b.Teams k).Name)))] [(1003, a'3)] (by kernel_rfl) (by kernel_rfl) ?_
 refine AWp.ret ?_
 refine fin_of (.inr rfl) (v := (vS ((nth b.Teams k).Name))) (Res.tmp rfl rfl) (h' := [(1003, (.box [(.p (.sl false 2 (b.Teams.map D.Team.cells))), (.p (.sl false 3 (b.Policies.map D.Policy.cells)))]))]) rfl rfl ?_
 exact ⟨rfl, rfl⟩
theorem pol_earlierT (b : D.Book) (i : Nat) (hi : i < b.Teams.length) (hl : b.Teams.length ≤ 1000) :
    SpecIs Tryz.prog 90 [(vI ((i : Nat) : Int)), (.clo (.func 91) [] [(.ref 1003 0)])] [(1003, (.box [(.p (.sl false 2 (b.Teams.map D.Team.cells))), (.p (.sl false 3 (b.Policies.map D.Policy.cells)))]))] (vB (earlierB (tnames b) i)) [(1003, (.box [(.p (.sl false 2 (b.Teams.map D.Team.cells))), (.p (.sl false 3 (b.Policies.map D.Policy.cells)))]))] := by
 refine Spec.intro Tryz.func90 rfl (by kernel_rfl) ?_
 intro Γ hGn hGk
 replace hGn : Γ.n = 18 := hGn
 replace hGk : Γ.names = [1003] := hGk
 let a'1 : AV := (.clo (.func 91) [] [(.ref 1003 0)])
 let a'2 : AV := (.p (.sl false 2 (b.Teams.map D.Team.cells)))
 let a'3 : AV := (.p (.sl false 3 (b.Policies.map D.Policy.cells)))
 let a'4 : AO := (.box [a'2, a'3])
 refine AWp.weaken (mk [(0, (vI ((i : Nat) : Int))), (1, a'1)] [(1003, a'4)]) (Weak.sub' hGk (by kernel_rfl)) ?_
 refine AWp.s_reg hGn hGk (aa 1) (Man.aa _ _) [(0, (vI ((i : Nat) : Int))), (1, a'1)] [(1003, a'4)] (by kernel_rfl) (by kernel_rfl) ?_
 refine AWp.seq ?_
 refine AWp.s_reg hGn hGk (aa 2) (Man.aa _ _) [(0, (vI ((i : Nat) : Int))), (1, a'1), (6, (vI ((i : Nat) : Int))), (7, (vI 0))] [(1003, a'4)] (by kernel_rfl) (by kernel_rfl) ?_
 refine AWp.block ?_
 refine AWp.loop (fun m s => ∃ j, s = (mk [(0, (vI ((i : Nat) : Int))), (1, (.clo (.func 91) [] [(.ref 1003 0)])), (6, (vI ((i : Nat) : Int))), (7, (vI ((j : Nat) : Int)))] [(1003, (.box [(.p (.sl false 2 (b.Teams.map D.Team.cells))), (.p (.sl false 3 (b.Policies.map D.Policy.cells)))]))]) ∧ (j ≤ i) ∧ (∀ k, k < j → ¬ nth (tnames b) k = nth (tnames b) i) ∧ m = (i - j))
  ⟨_, 0, rfl, (by omega), (by intro k hk; omega), rfl⟩ ?_
 rintro mm1 s ⟨j, rfl, hj, hw, hmm1⟩
 refine AWp.s_reg hGn hGk (aa 1) (Man.aa _ _) [(0, (vI ((i : Nat) : Int))), (1, a'1), (6, (vI ((i : Nat) : Int))), (7, (vI ((j : Nat) : Int))), (8, (vB (decide (((j : Nat) : Int) < ((i : Nat) : Int)))))] [(1003, a'4)] (by kernel_rfl) (by kernel_rfl) ?_
 refine AWp.seq ?_
 refine AWp.cond (decide (((j : Nat) : Int) < ((i : Nat) : Int))) rfl (fun hc2 => ?_) (fun hc2 => ?_)
 ·skip
  replace hc2 := of_decide_eq_true hc2
  refine AWp.skip ?_
  refine nextQ_normal ?_
  refine AWp.seq ?_
  refine AWp.block ?_
  refine AWp.s_reg hGn hGk (aa 2) (Man.aa _ _) [(0, (vI ((i : Nat) : Int))), (1, a'1), (5, (vI ((j : Nat) : Int))), (6, (vI ((i : Nat) : Int))), (7, (vI ((j : Nat) : Int)))] [(1003, a'4)] (by kernel_rfl) (by kernel_rfl) ?_
  refine AWp.s_reg hGn hGk [.a, .a, .m (some 12) ⟨[(10, a'1), (11, (vI ((j : Nat) : Int)))], [(1003, a'4)], (vS ((nth b.Teams j).Name)), [(1003, a'4)], []⟩, .a, .a, .m (some 15) ⟨[(13, a'1), (14, (vI ((i : Nat) : Int)))], [(1003, a'4)], (vS ((nth b.Teams i).Name)), [(1003, a'4)], []⟩, .a] ⟨StepOK.p rfl rfl rfl (OpOK.callClo rfl rfl (by kernel_rfl) rfl (pol_tname b j (by omega)) (by kernel_rfl)),
   StepOK.p rfl rfl rfl (OpOK.callClo rfl rfl (by kernel_rfl) rfl (pol_tname b i (by omega)) (by kernel_rfl)), trivial⟩ [(0, (vI ((i : Nat) : Int))), (1, a'1), (6, (vI ((i : Nat) : Int))), (7, (vI ((j : Nat) : Int))), (16, (vB (decide (((nth b.Teams j).Name) = ((nth b.Teams i).Name)))))] [(1003, a'4)] (by kernel_rfl) (by kernel_rfl) ?_
  refine AWp.cond (decide (((nth b.Teams j).Name) = ((nth b.Teams i).Name))) rfl (fun hc3 => ?_) (fun hc3 => ?_)
  ·skip
   replace hc3 := of_decide_eq_true hc3
   refine AWp.s_reg hGn hGk (aa 1) (Man.aa _ _) [(4, (vB true))] [(1003, a'4)] (by kernel_rfl) (by kernel_rfl) ?_
   refine AWp.ret ?_
   refine blockQ_ret ?_
   refine nextQ_ret ?_
   refine nextQ_ret ?_
   refine blockQ_ret ?_
   refine nextQ_ret ?_
   refine fin_of (.inr rfl) (v := (vB true)) (Res.tmp rfl rfl) (h' := [(1003, (.box [(.p (.sl false 2 (b.Teams.map D.Team.cells))), (.p (.sl false 3 (b.Policies.map D.Policy.cells)))]))]) rfl rfl ?_
   exact ⟨by rw [earlierB_yes (l := tnames b) (i := i) (k := j) (by omega) (by rw [tname_at (by omega), tname_at (by omega)]; assumption)], rfl⟩
  ·skip
   replace hc3 := of_decide_eq_false hc3
   refine AWp.skip ?_
   refine blockQ_normal ?_
   refine nextQ_normal ?_
   refine AWp.reg' hGn hGk [.m (some 17) ⟨[(7, (vI ((j : Nat) : Int)))], [], (vI ((j + 1 : Nat) : Int)), [], []⟩, .a] ⟨StepOK.p rfl rfl rfl (OpOK.add rfl rfl rfl (by rw [IntWalk.i64_in _ ⟨by omega, by omega⟩]; omega)), trivial⟩ [(0, (vI ((i : Nat) : Int))), (1, a'1), (6, (vI ((i : Nat) : Int))), (7, (vI ((j + 1 : Nat) : Int)))] [(1003, a'4)] (by kernel_rfl) (by kernel_rfl) ?_
   refine nextQ_normal ⟨_, ?_, (j + 1), rfl, (by omega), (fun k hk => by rcases Nat.lt_or_ge k j with h | h; exact hw k h; rw [show k = j from by omega, tname_at (by omega), tname_at (by omega)]; assumption), rfl⟩
   · omega
 ·skip
  replace hc2 := of_decide_eq_false hc2
  refine AWp.weaken (mk [] [(1003, a'4)]) (Weak.sub' hGk (by kernel_rfl)) ?_
  refine AWp.exit ?_
  refine nextQ_exit ?_
  refine nextQ_exit ?_
  refine blockQ_exit ?_
  refine nextQ_normal ?_
  refine AWp.s_reg hGn hGk (aa 1) (Man.aa _ _) [(4, (vB false))] [(1003, a'4)] (by kernel_rfl) (by kernel_rfl) ?_
  refine AWp.ret ?_
  refine fin_of (.inr rfl) (v := (vB false)) (Res.tmp rfl rfl) (h' := [(1003, (.box [(.p (.sl false 2 (b.Teams.map D.Team.cells))), (.p (.sl false 3 (b.Policies.map D.Policy.cells)))]))]) rfl rfl ?_
  exact ⟨by rw [earlierB_no (n := j) (by omega) hw], rfl⟩
theorem pol_pname (b : D.Book) (k : Nat) (hk : k < b.Policies.length) :
    SpecIs Tryz.prog 134 [(vI ((k : Nat) : Int)), (.ref 1004 0)] [(1004, (.box [(.p (.sl false 2 (b.Teams.map D.Team.cells))), (.p (.sl false 3 (b.Policies.map D.Policy.cells)))]))] (vS ((nth b.Policies k).Name)) [(1004, (.box [(.p (.sl false 2 (b.Teams.map D.Team.cells))), (.p (.sl false 3 (b.Policies.map D.Policy.cells)))]))] := by
 refine Spec.intro Tryz.func134 rfl (by kernel_rfl) ?_
 intro Γ hGn hGk
 replace hGn : Γ.n = 10 := hGn
 replace hGk : Γ.names = [1004] := hGk
 let a'1 : AV := (.p (.sl false 2 (b.Teams.map D.Team.cells)))
 let a'2 : AV := (.p (.sl false 3 (b.Policies.map D.Policy.cells)))
 let a'3 : AO := (.box [a'1, a'2])
 refine AWp.weaken (mk [(0, (vI ((k : Nat) : Int))), (1, (.ref 1004 0))] [(1004, a'3)]) (Weak.sub' hGk (by kernel_rfl)) ?_
 refine AWp.s_reg hGn hGk (aa 1) (Man.aa _ _) [(0, (vI ((k : Nat) : Int))), (1, (.ref 1004 0))] [(1004, a'3)] (by kernel_rfl) (by kernel_rfl) ?_
 refine AWp.s_reg hGn hGk [.a, .a, .a, .m (some 7) ⟨[(5, a'2), (6, (vI ((k : Nat) : Int)))], [], (.eptr [(pS ((nth b.Policies k).Name)), (.sl false 3 (((nth b.Policies k).Steps).map D.PolicyStep.cells)), (pI ((nth b.Policies k).Repeat))]), [], []⟩, .a, .a, .a] ⟨StepOK.p rfl rfl rfl (OpOK.indexP (e := 106) rfl (by kernel_rfl) (by kernel_rfl) rfl rfl rfl (map_nth (by omega))), trivial⟩ [(3, (vS ((nth b.Policies k).Name)))] [(1004, a'3)] (by kernel_rfl) (by kernel_rfl) ?_
 refine AWp.ret ?_
 refine fin_of (.inr rfl) (v := (vS ((nth b.Policies k).Name))) (Res.tmp rfl rfl) (h' := [(1004, (.box [(.p (.sl false 2 (b.Teams.map D.Team.cells))), (.p (.sl false 3 (b.Policies.map D.Policy.cells)))]))]) rfl rfl ?_
 exact ⟨rfl, rfl⟩
theorem pol_earlierP (b : D.Book) (i : Nat) (hi : i < b.Policies.length) (hl : b.Policies.length ≤ 1000) :
    SpecIs Tryz.prog 90 [(vI ((i : Nat) : Int)), (.clo (.func 134) [] [(.ref 1004 0)])] [(1004, (.box [(.p (.sl false 2 (b.Teams.map D.Team.cells))), (.p (.sl false 3 (b.Policies.map D.Policy.cells)))]))] (vB (earlierB (pnames b) i)) [(1004, (.box [(.p (.sl false 2 (b.Teams.map D.Team.cells))), (.p (.sl false 3 (b.Policies.map D.Policy.cells)))]))] := by
 refine Spec.intro Tryz.func90 rfl (by kernel_rfl) ?_
 intro Γ hGn hGk
 replace hGn : Γ.n = 18 := hGn
 replace hGk : Γ.names = [1004] := hGk
 let a'1 : AV := (.clo (.func 134) [] [(.ref 1004 0)])
 let a'2 : AV := (.p (.sl false 2 (b.Teams.map D.Team.cells)))
 let a'3 : AV := (.p (.sl false 3 (b.Policies.map D.Policy.cells)))
 let a'4 : AO := (.box [a'2, a'3])
 refine AWp.weaken (mk [(0, (vI ((i : Nat) : Int))), (1, a'1)] [(1004, a'4)]) (Weak.sub' hGk (by kernel_rfl)) ?_
 refine AWp.s_reg hGn hGk (aa 1) (Man.aa _ _) [(0, (vI ((i : Nat) : Int))), (1, a'1)] [(1004, a'4)] (by kernel_rfl) (by kernel_rfl) ?_
 refine AWp.seq ?_
 refine AWp.s_reg hGn hGk (aa 2) (Man.aa _ _) [(0, (vI ((i : Nat) : Int))), (1, a'1), (6, (vI ((i : Nat) : Int))), (7, (vI 0))] [(1004, a'4)] (by kernel_rfl) (by kernel_rfl) ?_
 refine AWp.block ?_
 refine AWp.loop (fun m s => ∃ j, s = (mk [(0, (vI ((i : Nat) : Int))), (1, (.clo (.func 134) [] [(.ref 1004 0)])), (6, (vI ((i : Nat) : Int))), (7, (vI ((j : Nat) : Int)))] [(1004, (.box [(.p (.sl false 2 (b.Teams.map D.Team.cells))), (.p (.sl false 3 (b.Policies.map D.Policy.cells)))]))]) ∧ (j ≤ i) ∧ (∀ k, k < j → ¬ nth (pnames b) k = nth (pnames b) i) ∧ m = (i - j))
  ⟨_, 0, rfl, (by omega), (by intro k hk; omega), rfl⟩ ?_
 rintro mm1 s ⟨j, rfl, hj, hw, hmm1⟩
 refine AWp.s_reg hGn hGk (aa 1) (Man.aa _ _) [(0, (vI ((i : Nat) : Int))), (1, a'1), (6, (vI ((i : Nat) : Int))), (7, (vI ((j : Nat) : Int))), (8, (vB (decide (((j : Nat) : Int) < ((i : Nat) : Int)))))] [(1004, a'4)] (by kernel_rfl) (by kernel_rfl) ?_
 refine AWp.seq ?_
 refine AWp.cond (decide (((j : Nat) : Int) < ((i : Nat) : Int))) rfl (fun hc2 => ?_) (fun hc2 => ?_)
 ·skip
  replace hc2 := of_decide_eq_true hc2
  refine AWp.skip ?_
  refine nextQ_normal ?_
  refine AWp.seq ?_
  refine AWp.block ?_
  refine AWp.s_reg hGn hGk (aa 2) (Man.aa _ _) [(0, (vI ((i : Nat) : Int))), (1, a'1), (5, (vI ((j : Nat) : Int))), (6, (vI ((i : Nat) : Int))), (7, (vI ((j : Nat) : Int)))] [(1004, a'4)] (by kernel_rfl) (by kernel_rfl) ?_
  refine AWp.s_reg hGn hGk [.a, .a, .m (some 12) ⟨[(10, a'1), (11, (vI ((j : Nat) : Int)))], [(1004, a'4)], (vS ((nth b.Policies j).Name)), [(1004, a'4)], []⟩, .a, .a, .m (some 15) ⟨[(13, a'1), (14, (vI ((i : Nat) : Int)))], [(1004, a'4)], (vS ((nth b.Policies i).Name)), [(1004, a'4)], []⟩, .a] ⟨StepOK.p rfl rfl rfl (OpOK.callClo rfl rfl (by kernel_rfl) rfl (pol_pname b j (by omega)) (by kernel_rfl)),
   StepOK.p rfl rfl rfl (OpOK.callClo rfl rfl (by kernel_rfl) rfl (pol_pname b i (by omega)) (by kernel_rfl)), trivial⟩ [(0, (vI ((i : Nat) : Int))), (1, a'1), (6, (vI ((i : Nat) : Int))), (7, (vI ((j : Nat) : Int))), (16, (vB (decide (((nth b.Policies j).Name) = ((nth b.Policies i).Name)))))] [(1004, a'4)] (by kernel_rfl) (by kernel_rfl) ?_
  refine AWp.cond (decide (((nth b.Policies j).Name) = ((nth b.Policies i).Name))) rfl (fun hc3 => ?_) (fun hc3 => ?_)
  ·skip
   replace hc3 := of_decide_eq_true hc3
   refine AWp.s_reg hGn hGk (aa 1) (Man.aa _ _) [(4, (vB true))] [(1004, a'4)] (by kernel_rfl) (by kernel_rfl) ?_
   refine AWp.ret ?_
   refine blockQ_ret ?_
   refine nextQ_ret ?_
   refine nextQ_ret ?_
   refine blockQ_ret ?_
   refine nextQ_ret ?_
   refine fin_of (.inr rfl) (v := (vB true)) (Res.tmp rfl rfl) (h' := [(1004, (.box [(.p (.sl false 2 (b.Teams.map D.Team.cells))), (.p (.sl false 3 (b.Policies.map D.Policy.cells)))]))]) rfl rfl ?_
   exact ⟨by rw [earlierB_yes (l := pnames b) (i := i) (k := j) (by omega) (by rw [pname_at (by omega), pname_at (by omega)]; assumption)], rfl⟩
  ·skip
   replace hc3 := of_decide_eq_false hc3
   refine AWp.skip ?_
   refine blockQ_normal ?_
   refine nextQ_normal ?_
   refine AWp.reg' hGn hGk [.m (some 17) ⟨[(7, (vI ((j : Nat) : Int)))], [], (vI ((j + 1 : Nat) : Int)), [], []⟩, .a] ⟨StepOK.p rfl rfl rfl (OpOK.add rfl rfl rfl (by rw [IntWalk.i64_in _ ⟨by omega, by omega⟩]; omega)), trivial⟩ [(0, (vI ((i : Nat) : Int))), (1, a'1), (6, (vI ((i : Nat) : Int))), (7, (vI ((j + 1 : Nat) : Int)))] [(1004, a'4)] (by kernel_rfl) (by kernel_rfl) ?_
   refine nextQ_normal ⟨_, ?_, (j + 1), rfl, (by omega), (fun k hk => by rcases Nat.lt_or_ge k j with h | h; exact hw k h; rw [show k = j from by omega, pname_at (by omega), pname_at (by omega)]; assumption), rfl⟩
   · omega
 ·skip
  replace hc2 := of_decide_eq_false hc2
  refine AWp.weaken (mk [] [(1004, a'4)]) (Weak.sub' hGk (by kernel_rfl)) ?_
  refine AWp.exit ?_
  refine nextQ_exit ?_
  refine nextQ_exit ?_
  refine blockQ_exit ?_
  refine nextQ_normal ?_
  refine AWp.s_reg hGn hGk (aa 1) (Man.aa _ _) [(4, (vB false))] [(1004, a'4)] (by kernel_rfl) (by kernel_rfl) ?_
  refine AWp.ret ?_
  refine fin_of (.inr rfl) (v := (vB false)) (Res.tmp rfl rfl) (h' := [(1004, (.box [(.p (.sl false 2 (b.Teams.map D.Team.cells))), (.p (.sl false 3 (b.Policies.map D.Policy.cells)))]))]) rfl rfl ?_
  exact ⟨by rw [earlierB_no (n := j) (by omega) hw], rfl⟩
theorem pol_set (c : D.Config) (l : List Int) (hn : c.People.length ≤ 9223372036854775807) (hl : l.length ≤ 9223372036854775807) :
    SpecIs Tryz.prog 92 [(.agg [(.p (.sl false 3 (c.Zones.map D.Zone.cells))), (.p (.sl false 6 (c.People.map D.Person.cells))), (.p (.sl false 3 (c.Calendars.map D.Calendar.cells))), (.p (.sl false 3 (c.Schedules.map D.Schedule.cells)))]), (.p (.sl false 1 (l.map D.cInt)))] [] (vI (setErr c.People.length l)) [] := by
 refine Spec.intro Tryz.func92 rfl (by kernel_rfl) ?_
 intro Γ hGn hGk
 replace hGn : Γ.n = 48 := hGn
 replace hGk : Γ.names = [] := hGk
 let a'1 : AV := (.p (.sl false 3 (c.Zones.map D.Zone.cells)))
 let a'2 : AV := (.p (.sl false 6 (c.People.map D.Person.cells)))
 let a'3 : AV := (.p (.sl false 3 (c.Calendars.map D.Calendar.cells)))
 let a'4 : AV := (.p (.sl false 3 (c.Schedules.map D.Schedule.cells)))
 refine AWp.weaken (mk [(0, (.agg [a'1, a'2, a'3, a'4])), (1, (.p (.sl false 1 (l.map D.cInt))))] []) (Weak.sub' hGk (by kernel_rfl)) ?_
 let a'5 : AO := (.box [a'1, a'2, a'3, a'4])
 refine AWp.s_reg hGn hGk (aa 2) (Man.aa _ _) [(1, (.p (.sl false 1 (l.map D.cInt)))), (2, (.ref 1002 0))] [(1002, a'5)] (by kernel_rfl) (by kernel_rfl) ?_
 refine AWp.seq ?_
 refine AWp.s_reg hGn hGk [.a, .m (some 7) ⟨[(6, (.p (.sl false 1 (l.map D.cInt))))], [], (vI ((l.length : Nat) : Int)), [], []⟩, .a] ⟨StepOK.p rfl rfl rfl (OpOK.lenP (e := 3) rfl rfl (by kernel_rfl) rfl (by rw [List.length_map])), trivial⟩ [(1, (.p (.sl false 1 (l.map D.cInt)))), (2, (.ref 1002 0)), (8, (vB (decide (((l.length : Nat) : Int) = (0 : Int)))))] [(1002, a'5)] (by kernel_rfl) (by kernel_rfl) ?_
 refine AWp.cond (decide (((l.length : Nat) : Int) = (0 : Int))) rfl (fun hc1 => ?_) (fun hc1 => ?_)
 ·skip
  replace hc1 := of_decide_eq_true hc1
  refine AWp.s_reg hGn hGk (aa 1) (Man.aa _ _) [(4, (vI 7))] [] (by kernel_rfl) (by kernel_rfl) ?_
  refine AWp.ret ?_
  refine nextQ_ret ?_
  refine fin_of (.inr rfl) (v := (vI 7)) (Res.tmp rfl rfl) (h' := []) rfl rfl ?_
  exact ⟨by rw [show setErr c.People.length l = 7 from by unfold setErr; rw [if_pos (by omega)]], rfl⟩
 ·skip
  replace hc1 := of_decide_eq_false hc1
  refine AWp.skip ?_
  refine nextQ_normal ?_
  refine AWp.seq ?_
  refine AWp.s_reg hGn hGk (aa 1) (Man.aa _ _) [(1, (.p (.sl false 1 (l.map D.cInt)))), (2, (.ref 1002 0)), (5, (vI 1))] [(1002, a'5)] (by kernel_rfl) (by kernel_rfl) ?_
  refine AWp.block ?_
  refine AWp.loop (fun m s => ∃ i, s = (mk [(1, (.p (.sl false 1 (l.map D.cInt)))), (2, (.ref 1002 0)), (5, (vI ((i : Nat) : Int)))] [(1002, (.box [(.p (.sl false 3 (c.Zones.map D.Zone.cells))), (.p (.sl false 6 (c.People.map D.Person.cells))), (.p (.sl false 3 (c.Calendars.map D.Calendar.cells))), (.p (.sl false 3 (c.Schedules.map D.Schedule.cells)))]))]) ∧ (1 ≤ i ∧ (i ≤ l.length ∨ i = 1)) ∧ (∀ j, 1 ≤ j → j < i → nth l (j - 1) < nth l j) ∧ m = (l.length + 1 - i))
   ⟨_, 1, rfl, (by omega), (by intro j hj; omega), rfl⟩ ?_
  rintro mm2 s ⟨i, rfl, hi, hw, hmm2⟩
  refine AWp.seq ?_
  refine AWp.s_reg hGn hGk [.a, .a, .m (some 11) ⟨[(10, (.p (.sl false 1 (l.map D.cInt))))], [], (vI ((l.length : Nat) : Int)), [], []⟩, .a] ⟨StepOK.p rfl rfl rfl (OpOK.lenP (e := 3) rfl rfl (by kernel_rfl) rfl (by rw [List.length_map])), trivial⟩ [(1, (.p (.sl false 1 (l.map D.cInt)))), (2, (.ref 1002 0)), (5, (vI ((i : Nat) : Int))), (12, (vB (decide (((i : Nat) : Int) < ((l.length : Nat) : Int)))))] [(1002, a'5)] (by kernel_rfl) (by kernel_rfl) ?_
  refine AWp.cond (decide (((i : Nat) : Int) < ((l.length : Nat) : Int))) rfl (fun hc3 => ?_) (fun hc3 => ?_)
  ·skip
   replace hc3 := of_decide_eq_true hc3
   refine AWp.skip ?_
   refine nextQ_normal ?_
   refine AWp.seq ?_
   refine AWp.block ?_
   refine AWp.s_dreg hGn hGk (by kernel_rfl) [.a, .a, .m (some 17) ⟨[(15, (.p (.sl false 1 (l.map D.cInt)))), (16, (vI ((i : Nat) : Int)))], [], (.eptr [(pI (nth l i))]), [], []⟩, .a, .a, .a, .m (some 21) ⟨[(20, (vI ((i : Nat) : Int)))], [], (vI ((i - 1 : Nat) : Int)), [], []⟩, .m (some 22) ⟨[(19, (.p (.sl false 1 (l.map D.cInt)))), (21, (vI ((i - 1 : Nat) : Int)))], [], (.eptr [(pI (nth l (i - 1)))]), [], []⟩, .a, .a] ⟨StepOK.p rfl rfl rfl (OpOK.indexP (e := 3) rfl (by kernel_rfl) (by kernel_rfl) rfl rfl rfl (map_nth (by omega))),
    StepOK.p rfl rfl rfl (OpOK.sub rfl rfl rfl (by rw [IntWalk.i64_in _ ⟨by omega, by omega⟩]; omega)),
    StepOK.p rfl rfl rfl (OpOK.indexP (e := 3) rfl (by kernel_rfl) (by kernel_rfl) rfl rfl rfl (map_nth (by omega))), trivial⟩ [(1, (.p (.sl false 1 (l.map D.cInt)))), (2, (.ref 1002 0)), (5, (vI ((i : Nat) : Int))), (24, (vB (decide ((nth l i) ≤ (nth l (i - 1))))))] [(1002, a'5)] (by kernel_rfl) (by kernel_rfl) (by kernel_rfl) ?_
   refine AWp.cond (decide ((nth l i) ≤ (nth l (i - 1)))) rfl (fun hc4 => ?_) (fun hc4 => ?_)
   ·skip
    replace hc4 := of_decide_eq_true hc4
    refine AWp.s_reg hGn hGk (aa 1) (Man.aa _ _) [(4, (vI 6))] [] (by kernel_rfl) (by kernel_rfl) ?_
    refine AWp.ret ?_
    refine blockQ_ret ?_
    refine nextQ_ret ?_
    refine nextQ_ret ?_
    refine blockQ_ret ?_
    refine nextQ_ret ?_
    refine fin_of (.inr rfl) (v := (vI 6)) (Res.tmp rfl rfl) (h' := []) rfl rfl ?_
    exact ⟨by rw [show setErr c.People.length l = 6 from by unfold setErr; rw [if_neg (by omega), if_pos (ascB_no (i := i) (by omega) (by omega) (by omega))]], rfl⟩
   ·skip
    replace hc4 := of_decide_eq_false hc4
    refine AWp.skip ?_
    refine blockQ_normal ?_
    refine nextQ_normal ?_
    refine AWp.reg' hGn hGk [.a, .m (some 14) ⟨[(13, (vI ((i : Nat) : Int)))], [], (vI ((i + 1 : Nat) : Int)), [], []⟩, .a] ⟨StepOK.p rfl rfl rfl (OpOK.add rfl rfl rfl (by rw [IntWalk.i64_in _ ⟨by omega, by omega⟩]; omega)), trivial⟩ [(1, (.p (.sl false 1 (l.map D.cInt)))), (2, (.ref 1002 0)), (5, (vI ((i + 1 : Nat) : Int)))] [(1002, a'5)] (by kernel_rfl) (by kernel_rfl) ?_
    refine nextQ_normal ⟨_, ?_, (i + 1), rfl, (by omega), (fun j h1 hj => by rcases Nat.lt_or_ge j i with h | h; exact hw j h1 h; rw [show j = i from by omega]; omega), rfl⟩
    · omega
  ·skip
   replace hc3 := of_decide_eq_false hc3
   refine AWp.weaken (mk [(1, (.p (.sl false 1 (l.map D.cInt)))), (2, (.ref 1002 0))] [(1002, a'5)]) (Weak.sub' hGk (by kernel_rfl)) ?_
   refine AWp.exit ?_
   refine nextQ_exit ?_
   refine nextQ_exit ?_
   refine blockQ_exit ?_
   refine nextQ_normal ?_
   refine AWp.seq ?_
   cases hs5 : inB (nth l 0) 0 (((c.People.length : Nat) : Int) - 1)
   ·skip
    have ha6 := inB_false hs5
    refine AWp.s_dreg hGn hGk (by kernel_rfl) [.a, .m (some 26) ⟨[(25, (.p (.sl false 1 (l.map D.cInt))))], [], (.eptr [(pI (nth l 0))]), [], []⟩, .a, .a, .a, .m (some 30) ⟨[(29, a'2)], [], (vI ((c.People.length : Nat) : Int)), [], []⟩, .m (some 31) ⟨[(30, (vI ((c.People.length : Nat) : Int)))], [], (vI (((c.People.length : Nat) : Int) - 1)), [], []⟩, .m (some 32) ⟨[(27, (vI (nth l 0))), (31, (vI (((c.People.length : Nat) : Int) - 1)))], [], (vB false), [], []⟩, .a, .a, .a, .a, .a, .a, .a, .a, .a, .a, .a, .a, .a, .a, .a] ⟨StepOK.p rfl rfl rfl (OpOK.indexP (e := 3) rfl (by kernel_rfl) (by kernel_rfl) rfl rfl rfl (map_nth (show 0 < List.length l by omega))),
     StepOK.p rfl rfl rfl (OpOK.lenP (e := 75) rfl rfl (by kernel_rfl) rfl (by rw [List.length_map])),
     StepOK.p rfl rfl rfl (OpOK.sub rfl rfl rfl (IntWalk.i64_in _ ⟨by omega, by omega⟩)),
     StepOK.p rfl rfl rfl (OpOK.call rfl (by kernel_rfl) rfl (by have hq := (pol_in (nth l 0) 0 (((c.People.length : Nat) : Int) - 1)); rw [hs5] at hq; exact hq) (by kernel_rfl)), trivial⟩ [(47, (vB true))] [] (by kernel_rfl) (by kernel_rfl) (by kernel_rfl) ?_
    refine AWp.cond_true rfl ?_
    refine AWp.s_reg hGn hGk (aa 1) (Man.aa _ _) [(4, (vI 3))] [] (by kernel_rfl) (by kernel_rfl) ?_
    refine AWp.ret ?_
    refine nextQ_ret ?_
    refine fin_of (.inr rfl) (v := (vI 3)) (Res.tmp rfl rfl) (h' := []) rfl rfl ?_
    have hasc := ascB_yes (l := l) (n := i) (by omega) hw
    have hmo := ascB_mono hasc (i := 0) (j := l.length - 1) (by omega) (by omega)
    exact ⟨by rw [show setErr c.People.length l = 3 from by unfold setErr; rw [if_neg (by omega), if_neg (by rw [hasc]; simp), if_neg (by first | omega | (simp only [inB, Bool.and_eq_true, Bool.and_eq_false_iff, decide_eq_true_eq, decide_eq_false_iff_not] at *; omega))]], rfl⟩
   ·skip
    have ha7 := inB_spec hs5
    refine AWp.s_dreg hGn hGk (by kernel_rfl) [.a, .m (some 26) ⟨[(25, (.p (.sl false 1 (l.map D.cInt))))], [], (.eptr [(pI (nth l 0))]), [], []⟩, .a, .a, .a, .m (some 30) ⟨[(29, a'2)], [], (vI ((c.People.length : Nat) : Int)), [], []⟩, .m (some 31) ⟨[(30, (vI ((c.People.length : Nat) : Int)))], [], (vI (((c.People.length : Nat) : Int) - 1)), [], []⟩, .m (some 32) ⟨[(27, (vI (nth l 0))), (31, (vI (((c.People.length : Nat) : Int) - 1)))], [], (vB true), [], []⟩, .a, .a, .a, .a, .m (some 37) ⟨[(36, (.p (.sl false 1 (l.map D.cInt)))), (34, (vB false))], [], (vI ((l.length : Nat) : Int)), [], []⟩, .m (some 38) ⟨[(37, (vI ((l.length : Nat) : Int))), (34, (vB false))], [], (vI ((l.length - 1 : Nat) : Int)), [], []⟩, .m (some 39) ⟨[(35, (.p (.sl false 1 (l.map D.cInt)))), (38, (vI ((l.length - 1 : Nat) : Int))), (34, (vB false))], [], (.eptr [(pI (nth l (l.length - 1)))]), [], []⟩, .a, .a, .a, .m (some 43) ⟨[(42, a'2), (34, (vB false))], [], (vI ((c.People.length : Nat) : Int)), [], []⟩, .m (some 44) ⟨[(43, (vI ((c.People.length : Nat) : Int))), (34, (vB false))], [], (vI (((c.People.length : Nat) : Int) - 1)), [], []⟩, .m (some 45) ⟨[(40, (vI (nth l (l.length - 1)))), (44, (vI (((c.People.length : Nat) : Int) - 1))), (34, (vB false))], [], (vB (inB (nth l (l.length - 1)) 0 (((c.People.length : Nat) : Int) - 1))), [], []⟩, .a, .a] ⟨StepOK.p rfl rfl rfl (OpOK.indexP (e := 3) rfl (by kernel_rfl) (by kernel_rfl) rfl rfl rfl (map_nth (show 0 < List.length l by omega))),
     StepOK.p rfl rfl rfl (OpOK.lenP (e := 75) rfl rfl (by kernel_rfl) rfl (by rw [List.length_map])),
     StepOK.p rfl rfl rfl (OpOK.sub rfl rfl rfl (IntWalk.i64_in _ ⟨by omega, by omega⟩)),
     StepOK.p rfl rfl rfl (OpOK.call rfl (by kernel_rfl) rfl (by have hq := (pol_in (nth l 0) 0 (((c.People.length : Nat) : Int) - 1)); rw [hs5] at hq; exact hq) (by kernel_rfl)),
     StepOK.g rfl rfl rfl rfl rfl (by simp) (OpOK.lenP (e := 3) rfl rfl (by kernel_rfl) rfl (by rw [List.length_map])),
     StepOK.g rfl rfl rfl rfl rfl (by simp) (OpOK.sub rfl rfl rfl (by rw [IntWalk.i64_in _ ⟨by omega, by omega⟩]; omega)),
     StepOK.g rfl rfl rfl rfl rfl (by simp) (OpOK.indexP (e := 3) rfl (by kernel_rfl) (by kernel_rfl) rfl rfl rfl (map_nth (by omega))),
     StepOK.g rfl rfl rfl rfl rfl (by simp) (OpOK.lenP (e := 75) rfl rfl (by kernel_rfl) rfl (by rw [List.length_map])),
     StepOK.g rfl rfl rfl rfl rfl (by simp) (OpOK.sub rfl rfl rfl (IntWalk.i64_in _ ⟨by omega, by omega⟩)),
     StepOK.g rfl rfl rfl rfl rfl (by simp) (OpOK.call rfl (by kernel_rfl) rfl (pol_in (nth l (l.length - 1)) 0 (((c.People.length : Nat) : Int) - 1)) (by kernel_rfl)), trivial⟩ [(47, (vB (!(inB (nth l (l.length - 1)) 0 (((c.People.length : Nat) : Int) - 1)))))] [] (by kernel_rfl) (by kernel_rfl) (by kernel_rfl) ?_
    refine AWp.cond (!(inB (nth l (l.length - 1)) 0 (((c.People.length : Nat) : Int) - 1))) rfl (fun hc8 => ?_) (fun hc8 => ?_)
    ·skip
     replace hc8 : inB (nth l (l.length - 1)) 0 (((c.People.length : Nat) : Int) - 1) = false := by simpa using hc8
     have ha9 := inB_false hc8
     refine AWp.s_reg hGn hGk (aa 1) (Man.aa _ _) [(4, (vI 3))] [] (by kernel_rfl) (by kernel_rfl) ?_
     refine AWp.ret ?_
     refine nextQ_ret ?_
     refine fin_of (.inr rfl) (v := (vI 3)) (Res.tmp rfl rfl) (h' := []) rfl rfl ?_
     have hasc := ascB_yes (l := l) (n := i) (by omega) hw
     have hmo := ascB_mono hasc (i := 0) (j := l.length - 1) (by omega) (by omega)
     exact ⟨by rw [show setErr c.People.length l = 3 from by unfold setErr; rw [if_neg (by omega), if_neg (by rw [hasc]; simp), if_neg (by first | omega | (simp only [inB, Bool.and_eq_true, Bool.and_eq_false_iff, decide_eq_true_eq, decide_eq_false_iff_not] at *; omega))]], rfl⟩
    ·skip
     replace hc8 : inB (nth l (l.length - 1)) 0 (((c.People.length : Nat) : Int) - 1) = true := by simpa using hc8
     have ha10 := inB_spec hc8
     refine AWp.skip ?_
     refine nextQ_normal ?_
     refine AWp.s_reg hGn hGk (aa 1) (Man.aa _ _) [(4, (vI 0))] [] (by kernel_rfl) (by kernel_rfl) ?_
     refine AWp.ret ?_
     refine fin_of (.inr rfl) (v := (vI 0)) (Res.tmp rfl rfl) (h' := []) rfl rfl ?_
     have hasc := ascB_yes (l := l) (n := i) (by omega) hw
     have hmo := ascB_mono hasc (i := 0) (j := l.length - 1) (by omega) (by omega)
     exact ⟨by rw [show setErr c.People.length l = 0 from by unfold setErr; rw [if_neg (by omega), if_neg (by rw [hasc]; simp), if_pos (by first | omega | (simp only [inB, Bool.and_eq_true, decide_eq_true_eq] at *; omega))]], rfl⟩
theorem pol_sizes (c : D.Config) (b : D.Book) :
    SpecIs Tryz.prog 161 [(.agg [(.p (.sl false 3 (c.Zones.map D.Zone.cells))), (.p (.sl false 6 (c.People.map D.Person.cells))), (.p (.sl false 3 (c.Calendars.map D.Calendar.cells))), (.p (.sl false 3 (c.Schedules.map D.Schedule.cells)))]), (.agg [(.p (.sl false 2 (b.Teams.map D.Team.cells))), (.p (.sl false 3 (b.Policies.map D.Policy.cells)))])] [] (.agg [(vI ((c.People.length : Nat) : Int)), (vI ((c.Schedules.length : Nat) : Int)), (vI ((b.Teams.length : Nat) : Int))]) [] := by
 refine Spec.intro Tryz.func161 rfl (by kernel_rfl) ?_
 intro Γ hGn hGk
 replace hGn : Γ.n = 15 := hGn
 replace hGk : Γ.names = [] := hGk
 let a'1 : AV := (.p (.sl false 6 (c.People.map D.Person.cells)))
 let a'2 : AV := (.p (.sl false 3 (c.Schedules.map D.Schedule.cells)))
 let a'3 : AV := (.p (.sl false 2 (b.Teams.map D.Team.cells)))
 refine AWp.weaken (mk [(0, (.agg [(.p (.sl false 3 (c.Zones.map D.Zone.cells))), a'1, (.p (.sl false 3 (c.Calendars.map D.Calendar.cells))), a'2])), (1, (.agg [a'3, (.p (.sl false 3 (b.Policies.map D.Policy.cells)))]))] []) (Weak.sub' hGk (by kernel_rfl)) ?_
 refine AWp.s_reg hGn hGk (aa 3) (Man.aa _ _) [(2, (.ref 1002 0)), (3, (.ref 1003 0)), (4, (.ref 1004 0))] [(1002, (.box [(.p (.sl false 3 (c.Zones.map D.Zone.cells))), a'1, (.p (.sl false 3 (c.Calendars.map D.Calendar.cells))), a'2])), (1003, (.box [a'3, (.p (.sl false 3 (b.Policies.map D.Policy.cells)))])), (1004, (.box [(vI 0), (vI 0), (vI 0)]))] (by kernel_rfl) (by kernel_rfl) ?_
 refine AWp.s_reg hGn hGk [.a, .a, .m (some 7) ⟨[(6, a'1)], [], (vI ((c.People.length : Nat) : Int)), [], []⟩, .a, .a, .m (some 10) ⟨[(9, a'2)], [], (vI ((c.Schedules.length : Nat) : Int)), [], []⟩, .a, .a, .m (some 13) ⟨[(12, a'3)], [], (vI ((b.Teams.length : Nat) : Int)), [], []⟩, .m (some 14) ⟨[(7, (vI ((c.People.length : Nat) : Int))), (10, (vI ((c.Schedules.length : Nat) : Int))), (13, (vI ((b.Teams.length : Nat) : Int)))], [], (.agg [(vI ((c.People.length : Nat) : Int)), (vI ((c.Schedules.length : Nat) : Int)), (vI ((b.Teams.length : Nat) : Int))]), [], []⟩, .a] ⟨StepOK.p rfl rfl rfl (OpOK.lenP (e := 75) rfl rfl (by kernel_rfl) rfl (by rw [List.length_map])),
  StepOK.p rfl rfl rfl (OpOK.lenP (e := 85) rfl rfl (by kernel_rfl) rfl (by rw [List.length_map])),
  StepOK.p rfl rfl rfl (OpOK.lenP (e := 111) rfl rfl (by kernel_rfl) rfl (by rw [List.length_map])),
  StepOK.p rfl rfl rfl (OpOK.buildArr (e := 3) (n := 3) (es := 1) (zs := [(vI 0), (vI 0), (vI 0)]) rfl (by kernel_rfl) (by kernel_rfl) (by kernel_rfl) rfl), trivial⟩ [(4, (.ref 1004 0))] [(1004, (.box [(vI ((c.People.length : Nat) : Int)), (vI ((c.Schedules.length : Nat) : Int)), (vI ((b.Teams.length : Nat) : Int))]))] (by kernel_rfl) (by kernel_rfl) ?_
 refine AWp.ret ?_
 refine fin_of (.inr rfl) (v := (.agg [(vI ((c.People.length : Nat) : Int)), (vI ((c.Schedules.length : Nat) : Int)), (vI ((b.Teams.length : Nat) : Int))])) (Res.agg rfl rfl rfl (by kernel_rfl) (by kernel_rfl)) (h' := []) rfl rfl ?_
 exact ⟨rfl, rfl⟩
theorem pol_step (c : D.Config) (b : D.Book) (x : D.PolicyStep) (hP : c.People.length ≤ 1000) (hS : c.Schedules.length ≤ 1000) (hT : b.Teams.length ≤ 1000) :
    SpecIs Tryz.prog 135 [(.agg [(.p (.sl false 3 (c.Zones.map D.Zone.cells))), (.p (.sl false 6 (c.People.map D.Person.cells))), (.p (.sl false 3 (c.Calendars.map D.Calendar.cells))), (.p (.sl false 3 (c.Schedules.map D.Schedule.cells)))]), (.agg [(.p (.sl false 2 (b.Teams.map D.Team.cells))), (.p (.sl false 3 (b.Policies.map D.Policy.cells)))]), (.agg [(vI x.Wait), (vB x.Urgent), (.p (.sl false 2 (x.Targets.map D.Target.cells)))])] [] (vI (stepErr c.People.length c.Schedules.length b.Teams.length x)) [] := by
 refine Spec.intro Tryz.func135 rfl (by kernel_rfl) ?_
 intro Γ hGn hGk
 replace hGn : Γ.n = 44 := hGn
 replace hGk : Γ.names = [] := hGk
 let a'1 : AV := (.p (.sl false 3 (c.Zones.map D.Zone.cells)))
 let a'2 : AV := (.p (.sl false 6 (c.People.map D.Person.cells)))
 let a'3 : AV := (.p (.sl false 3 (c.Calendars.map D.Calendar.cells)))
 let a'4 : AV := (.p (.sl false 3 (c.Schedules.map D.Schedule.cells)))
 let a'5 : AV := (.p (.sl false 2 (b.Teams.map D.Team.cells)))
 let a'6 : AV := (.p (.sl false 3 (b.Policies.map D.Policy.cells)))
 let a'7 : AV := (.p (.sl false 2 (x.Targets.map D.Target.cells)))
 refine AWp.weaken (mk [(0, (.agg [a'1, a'2, a'3, a'4])), (1, (.agg [a'5, a'6])), (2, (.agg [(vI x.Wait), (vB x.Urgent), a'7]))] []) (Weak.sub' hGk (by kernel_rfl)) ?_
 let a'8 : AO := (.box [a'1, a'2, a'3, a'4])
 let a'9 : AO := (.box [a'5, a'6])
 let a'10 : AO := (.box [(vI x.Wait), (vB x.Urgent), a'7])
 refine AWp.s_reg hGn hGk (aa 4) (Man.aa _ _) [(3, (.ref 1003 0)), (4, (.ref 1004 0)), (5, (.ref 1005 0))] [(1003, a'8), (1004, a'9), (1005, a'10)] (by kernel_rfl) (by kernel_rfl) ?_
 refine AWp.seq ?_
 refine AWp.s_reg hGn hGk [.a, .a, .m (some 12) ⟨[(11, (vI x.Wait))], [], (vB (inB x.Wait 0 86400)), [], []⟩, .a] ⟨StepOK.p rfl rfl rfl (OpOK.call rfl (by kernel_rfl) rfl (pol_in x.Wait 0 86400) (by kernel_rfl)), trivial⟩ [(3, (.ref 1003 0)), (4, (.ref 1004 0)), (5, (.ref 1005 0)), (13, (vB (!(inB x.Wait 0 86400))))] [(1003, a'8), (1004, a'9), (1005, a'10)] (by kernel_rfl) (by kernel_rfl) ?_
 refine AWp.cond (!(inB x.Wait 0 86400)) rfl (fun hc1 => ?_) (fun hc1 => ?_)
 ·skip
  replace hc1 : inB x.Wait 0 86400 = false := by simpa using hc1
  have ha2 := inB_false hc1
  refine AWp.s_reg hGn hGk (aa 1) (Man.aa _ _) [(6, (vI 1))] [] (by kernel_rfl) (by kernel_rfl) ?_
  refine AWp.ret ?_
  refine nextQ_ret ?_
  refine fin_of (.inr rfl) (v := (vI 1)) (Res.tmp rfl rfl) (h' := []) rfl rfl ?_
  exact ⟨by rw [show stepErr c.People.length c.Schedules.length b.Teams.length x = 1 from by unfold stepErr; rw [if_pos (by assumption)]], rfl⟩
 ·skip
  replace hc1 : inB x.Wait 0 86400 = true := by simpa using hc1
  have ha3 := inB_spec hc1
  refine AWp.skip ?_
  refine nextQ_normal ?_
  refine AWp.seq ?_
  refine AWp.s_reg hGn hGk [.a, .a, .m (some 16) ⟨[(15, a'7)], [], (vI ((x.Targets.length : Nat) : Int)), [], []⟩, .a] ⟨StepOK.p rfl rfl rfl (OpOK.lenP (e := 113) rfl rfl (by kernel_rfl) rfl (by rw [List.length_map])), trivial⟩ [(3, (.ref 1003 0)), (4, (.ref 1004 0)), (5, (.ref 1005 0)), (17, (vB (decide ((6 : Int) < ((x.Targets.length : Nat) : Int)))))] [(1003, a'8), (1004, a'9), (1005, a'10)] (by kernel_rfl) (by kernel_rfl) ?_
  refine AWp.cond (decide ((6 : Int) < ((x.Targets.length : Nat) : Int))) rfl (fun hc4 => ?_) (fun hc4 => ?_)
  ·skip
   replace hc4 := of_decide_eq_true hc4
   refine AWp.s_reg hGn hGk (aa 1) (Man.aa _ _) [(6, (vI 5))] [] (by kernel_rfl) (by kernel_rfl) ?_
   refine AWp.ret ?_
   refine nextQ_ret ?_
   refine fin_of (.inr rfl) (v := (vI 5)) (Res.tmp rfl rfl) (h' := []) rfl rfl ?_
   exact ⟨by rw [show stepErr c.People.length c.Schedules.length b.Teams.length x = 5 from by unfold stepErr; rw [if_neg (by simp [*]), targetsErr, if_pos (by omega)]], rfl⟩
  ·skip
   replace hc4 := of_decide_eq_false hc4
   refine AWp.skip ?_
   refine nextQ_normal ?_
   let a'11 : AO := (.box [(vI ((c.People.length : Nat) : Int)), (vI ((c.Schedules.length : Nat) : Int)), (vI ((b.Teams.length : Nat) : Int))])
   refine AWp.s_reg hGn hGk [.a, .a, .m (some 20) ⟨[(18, (.agg [a'1, a'2, a'3, a'4])), (19, (.agg [a'5, a'6]))], [], (.agg [(vI ((c.People.length : Nat) : Int)), (vI ((c.Schedules.length : Nat) : Int)), (vI ((b.Teams.length : Nat) : Int))]), [], []⟩, .a, .a] ⟨StepOK.p rfl rfl rfl (OpOK.call rfl (by kernel_rfl) rfl (pol_sizes c b) (by kernel_rfl)), trivial⟩ [(5, (.ref 1005 0)), (7, (.ref 1007 0))] [(1005, a'10), (1007, a'11)] (by kernel_rfl) (by kernel_rfl) ?_
   refine AWp.seq ?_
   refine AWp.s_reg hGn hGk [.a, .a, .m (some 23) ⟨[(22, a'7)], [], (vI ((x.Targets.length : Nat) : Int)), [], []⟩, .a] ⟨StepOK.p rfl rfl rfl (OpOK.lenP (e := 113) rfl rfl (by kernel_rfl) rfl (by rw [List.length_map])), trivial⟩ [(7, (.ref 1007 0)), (22, a'7), (23, (vI ((x.Targets.length : Nat) : Int))), (24, (vI 0))] [(1007, a'11)] (by kernel_rfl) (by kernel_rfl) ?_
   refine AWp.block ?_
   refine AWp.loop (fun m s => ∃ j, s = (mk [(7, (.ref 1007 0)), (22, (.p (.sl false 2 (x.Targets.map D.Target.cells)))), (23, (vI ((x.Targets.length : Nat) : Int))), (24, (vI ((j : Nat) : Int)))] [(1007, (.box [(vI ((c.People.length : Nat) : Int)), (vI ((c.Schedules.length : Nat) : Int)), (vI ((b.Teams.length : Nat) : Int))]))]) ∧ (j ≤ x.Targets.length) ∧ (firstN (fun i => targetErr c.People.length c.Schedules.length b.Teams.length (nth x.Targets i)) j = 0) ∧ m = (x.Targets.length - j))
    ⟨_, 0, rfl, (by omega), rfl, rfl⟩ ?_
   rintro mm5 s ⟨j, rfl, hj, hz, hmm5⟩
   refine AWp.s_reg hGn hGk (aa 1) (Man.aa _ _) [(7, (.ref 1007 0)), (22, a'7), (23, (vI ((x.Targets.length : Nat) : Int))), (24, (vI ((j : Nat) : Int))), (25, (vB (decide (((j : Nat) : Int) < ((x.Targets.length : Nat) : Int)))))] [(1007, a'11)] (by kernel_rfl) (by kernel_rfl) ?_
   refine AWp.seq ?_
   refine AWp.cond (decide (((j : Nat) : Int) < ((x.Targets.length : Nat) : Int))) rfl (fun hc6 => ?_) (fun hc6 => ?_)
   ·skip
    replace hc6 := of_decide_eq_true hc6
    refine AWp.skip ?_
    refine nextQ_normal ?_
    refine AWp.seq ?_
    refine AWp.block ?_
    refine AWp.s_reg hGn hGk [.m (some 26) ⟨[(22, a'7), (24, (vI ((j : Nat) : Int)))], [], (.eptr [(pI ((nth x.Targets j).Kind)), (pI ((nth x.Targets j).Index))]), [], []⟩, .a, .a, .a] ⟨StepOK.p rfl rfl rfl (OpOK.indexP (e := 113) rfl (by kernel_rfl) (by kernel_rfl) rfl rfl rfl (map_nth (by omega))), trivial⟩ [(7, (.ref 1007 0)), (9, (.ref 1009 0)), (22, a'7), (23, (vI ((x.Targets.length : Nat) : Int))), (24, (vI ((j : Nat) : Int)))] [(1007, a'11), (1009, (.box [(vI ((nth x.Targets j).Kind)), (vI ((nth x.Targets j).Index))]))] (by kernel_rfl) (by kernel_rfl) ?_
    cases hs7 : inB ((nth x.Targets j).Kind) 0 2
    ·skip
     have ha8 := inB_false hs7
     refine AWp.s_dreg hGn hGk (by kernel_rfl) [.a, .a, .m (some 30) ⟨[(29, (vI ((nth x.Targets j).Kind)))], [], (vB false), [], []⟩, .a, .a, .a, .a, .a, .a, .a, .a, .a, .a, .a, .a] ⟨StepOK.p rfl rfl rfl (OpOK.call rfl (by kernel_rfl) rfl (by have hq := (pol_in ((nth x.Targets j).Kind) 0 2); rw [hs7] at hq; exact hq) (by kernel_rfl)), trivial⟩ [(7, (.ref 1007 0)), (22, a'7), (23, (vI ((x.Targets.length : Nat) : Int))), (24, (vI ((j : Nat) : Int))), (42, (vB true))] [(1007, a'11)] (by kernel_rfl) (by kernel_rfl) (by kernel_rfl) ?_
     refine AWp.cond_true rfl ?_
     refine AWp.s_reg hGn hGk (aa 1) (Man.aa _ _) [(6, (vI 3))] [] (by kernel_rfl) (by kernel_rfl) ?_
     refine AWp.ret ?_
     refine blockQ_ret ?_
     refine nextQ_ret ?_
     refine nextQ_ret ?_
     refine blockQ_ret ?_
     refine nextQ_ret ?_
     refine fin_of (.inr rfl) (v := (vI 3)) (Res.tmp rfl rfl) (h' := []) rfl rfl ?_
     exact ⟨by rw [show stepErr c.People.length c.Schedules.length b.Teams.length x = 3 from by unfold stepErr; rw [if_neg (by simp [*]), targetsErr, if_neg (by omega)]; exact firstN_err hz (by omega) (by first | exact target_bad (by assumption) | exact target_no (by assumption) (by omega)) (by decide)], rfl⟩
    ·skip
     have ha9 := inB_spec hs7
     by_cases hs10 : ((nth x.Targets j).Kind) = (0 : Int)
     ·skip
      refine AWp.s_dreg hGn hGk (by kernel_rfl) [.a, .a, .m (some 30) ⟨[(29, (vI ((nth x.Targets j).Kind)))], [], (vB true), [], []⟩, .a, .a, .a, .a, .a, .a, .m (some 37) ⟨[(7, (.ref 1007 0)), (36, (vI ((nth x.Targets j).Kind))), (32, (vB false))], [(1007, a'11)], (.ref 1007 0), [], []⟩, .a, .m (some 39) ⟨[(38, (vI ((c.People.length : Nat) : Int))), (32, (vB false))], [], (vI (((c.People.length : Nat) : Int) - 1)), [], []⟩, .m (some 40) ⟨[(34, (vI ((nth x.Targets j).Index))), (39, (vI (((c.People.length : Nat) : Int) - 1))), (32, (vB false))], [], (vB (inB ((nth x.Targets j).Index) 0 (((c.People.length : Nat) : Int) - 1))), [], []⟩, .a, .a] ⟨StepOK.p rfl rfl rfl (OpOK.call rfl (by kernel_rfl) rfl (by have hq := (pol_in ((nth x.Targets j).Kind) 0 2); rw [hs7] at hq; exact hq) (by kernel_rfl)),
       StepOK.g rfl rfl rfl rfl rfl (by simp) (OpOK.indexArr (e := 3) (len := 3) (es := 1) (i := 0) rfl (by kernel_rfl) (by kernel_rfl) rfl rfl (by rw [of_decide_eq_true (decide_eq_true hs10)]; rfl) (by decide) rfl),
       StepOK.g rfl rfl rfl rfl rfl (by simp) (OpOK.sub rfl rfl rfl (IntWalk.i64_in _ ⟨by omega, by omega⟩)),
       StepOK.g rfl rfl rfl rfl rfl (by simp) (OpOK.call rfl (by kernel_rfl) rfl (pol_in ((nth x.Targets j).Index) 0 (((c.People.length : Nat) : Int) - 1)) (by kernel_rfl)), trivial⟩ [(7, (.ref 1007 0)), (22, a'7), (23, (vI ((x.Targets.length : Nat) : Int))), (24, (vI ((j : Nat) : Int))), (42, (vB (!(inB ((nth x.Targets j).Index) 0 (((c.People.length : Nat) : Int) - 1)))))] [(1007, a'11)] (by kernel_rfl) (by kernel_rfl) (by kernel_rfl) ?_
      refine AWp.cond (!(inB ((nth x.Targets j).Index) 0 (((c.People.length : Nat) : Int) - 1))) rfl (fun hc11 => ?_) (fun hc11 => ?_)
      ·skip
       replace hc11 : inB ((nth x.Targets j).Index) 0 (((c.People.length : Nat) : Int) - 1) = false := by simpa using hc11
       have ha12 := inB_false hc11
       refine AWp.s_reg hGn hGk (aa 1) (Man.aa _ _) [(6, (vI 3))] [] (by kernel_rfl) (by kernel_rfl) ?_
       refine AWp.ret ?_
       refine blockQ_ret ?_
       refine nextQ_ret ?_
       refine nextQ_ret ?_
       refine blockQ_ret ?_
       refine nextQ_ret ?_
       refine fin_of (.inr rfl) (v := (vI 3)) (Res.tmp rfl rfl) (h' := []) rfl rfl ?_
       exact ⟨by rw [show stepErr c.People.length c.Schedules.length b.Teams.length x = 3 from by unfold stepErr; rw [if_neg (by simp [*]), targetsErr, if_neg (by omega)]; exact firstN_err hz (by omega) (by first | exact target_bad (by assumption) | exact target_no (by assumption) (by omega)) (by decide)], rfl⟩
      ·skip
       replace hc11 : inB ((nth x.Targets j).Index) 0 (((c.People.length : Nat) : Int) - 1) = true := by simpa using hc11
       have ha13 := inB_spec hc11
       refine AWp.skip ?_
       refine blockQ_normal ?_
       refine nextQ_normal ?_
       refine AWp.reg' hGn hGk [.m (some 43) ⟨[(24, (vI ((j : Nat) : Int)))], [], (vI ((j + 1 : Nat) : Int)), [], []⟩, .a] ⟨StepOK.p rfl rfl rfl (OpOK.add rfl rfl rfl (by rw [IntWalk.i64_in _ ⟨by omega, by omega⟩]; omega)), trivial⟩ [(7, (.ref 1007 0)), (22, a'7), (23, (vI ((x.Targets.length : Nat) : Int))), (24, (vI ((j + 1 : Nat) : Int)))] [(1007, a'11)] (by kernel_rfl) (by kernel_rfl) ?_
       refine nextQ_normal ⟨_, ?_, (j + 1), rfl, (by omega), (firstN_step hz (by first | exact target_ok (by assumption) (by omega))), rfl⟩
       · omega
     ·skip
      by_cases hs14 : ((nth x.Targets j).Kind) = (1 : Int)
      ·skip
       refine AWp.s_dreg hGn hGk (by kernel_rfl) [.a, .a, .m (some 30) ⟨[(29, (vI ((nth x.Targets j).Kind)))], [], (vB true), [], []⟩, .a, .a, .a, .a, .a, .a, .m (some 37) ⟨[(7, (.ref 1007 0)), (36, (vI ((nth x.Targets j).Kind))), (32, (vB false))], [(1007, a'11)], (.ref 1007 1), [], []⟩, .a, .m (some 39) ⟨[(38, (vI ((c.Schedules.length : Nat) : Int))), (32, (vB false))], [], (vI (((c.Schedules.length : Nat) : Int) - 1)), [], []⟩, .m (some 40) ⟨[(34, (vI ((nth x.Targets j).Index))), (39, (vI (((c.Schedules.length : Nat) : Int) - 1))), (32, (vB false))], [], (vB (inB ((nth x.Targets j).Index) 0 (((c.Schedules.length : Nat) : Int) - 1))), [], []⟩, .a, .a] ⟨StepOK.p rfl rfl rfl (OpOK.call rfl (by kernel_rfl) rfl (by have hq := (pol_in ((nth x.Targets j).Kind) 0 2); rw [hs7] at hq; exact hq) (by kernel_rfl)),
        StepOK.g rfl rfl rfl rfl rfl (by simp) (OpOK.indexArr (e := 3) (len := 3) (es := 1) (i := 1) rfl (by kernel_rfl) (by kernel_rfl) rfl rfl (by rw [of_decide_eq_true (decide_eq_true hs14)]; rfl) (by decide) rfl),
        StepOK.g rfl rfl rfl rfl rfl (by simp) (OpOK.sub rfl rfl rfl (IntWalk.i64_in _ ⟨by omega, by omega⟩)),
        StepOK.g rfl rfl rfl rfl rfl (by simp) (OpOK.call rfl (by kernel_rfl) rfl (pol_in ((nth x.Targets j).Index) 0 (((c.Schedules.length : Nat) : Int) - 1)) (by kernel_rfl)), trivial⟩ [(7, (.ref 1007 0)), (22, a'7), (23, (vI ((x.Targets.length : Nat) : Int))), (24, (vI ((j : Nat) : Int))), (42, (vB (!(inB ((nth x.Targets j).Index) 0 (((c.Schedules.length : Nat) : Int) - 1)))))] [(1007, a'11)] (by kernel_rfl) (by kernel_rfl) (by kernel_rfl) ?_
       refine AWp.cond (!(inB ((nth x.Targets j).Index) 0 (((c.Schedules.length : Nat) : Int) - 1))) rfl (fun hc15 => ?_) (fun hc15 => ?_)
       ·skip
        replace hc15 : inB ((nth x.Targets j).Index) 0 (((c.Schedules.length : Nat) : Int) - 1) = false := by simpa using hc15
        have ha16 := inB_false hc15
        refine AWp.s_reg hGn hGk (aa 1) (Man.aa _ _) [(6, (vI 3))] [] (by kernel_rfl) (by kernel_rfl) ?_
        refine AWp.ret ?_
        refine blockQ_ret ?_
        refine nextQ_ret ?_
        refine nextQ_ret ?_
        refine blockQ_ret ?_
        refine nextQ_ret ?_
        refine fin_of (.inr rfl) (v := (vI 3)) (Res.tmp rfl rfl) (h' := []) rfl rfl ?_
        exact ⟨by rw [show stepErr c.People.length c.Schedules.length b.Teams.length x = 3 from by unfold stepErr; rw [if_neg (by simp [*]), targetsErr, if_neg (by omega)]; exact firstN_err hz (by omega) (by first | exact target_bad (by assumption) | exact target_no (by assumption) (by omega)) (by decide)], rfl⟩
       ·skip
        replace hc15 : inB ((nth x.Targets j).Index) 0 (((c.Schedules.length : Nat) : Int) - 1) = true := by simpa using hc15
        have ha17 := inB_spec hc15
        refine AWp.skip ?_
        refine blockQ_normal ?_
        refine nextQ_normal ?_
        refine AWp.reg' hGn hGk [.m (some 43) ⟨[(24, (vI ((j : Nat) : Int)))], [], (vI ((j + 1 : Nat) : Int)), [], []⟩, .a] ⟨StepOK.p rfl rfl rfl (OpOK.add rfl rfl rfl (by rw [IntWalk.i64_in _ ⟨by omega, by omega⟩]; omega)), trivial⟩ [(7, (.ref 1007 0)), (22, a'7), (23, (vI ((x.Targets.length : Nat) : Int))), (24, (vI ((j + 1 : Nat) : Int)))] [(1007, a'11)] (by kernel_rfl) (by kernel_rfl) ?_
        refine nextQ_normal ⟨_, ?_, (j + 1), rfl, (by omega), (firstN_step hz (by first | exact target_ok (by assumption) (by omega))), rfl⟩
        · omega
      ·skip
       refine AWp.s_dreg hGn hGk (by kernel_rfl) [.a, .a, .m (some 30) ⟨[(29, (vI ((nth x.Targets j).Kind)))], [], (vB true), [], []⟩, .a, .a, .a, .a, .a, .a, .m (some 37) ⟨[(7, (.ref 1007 0)), (36, (vI ((nth x.Targets j).Kind))), (32, (vB false))], [(1007, a'11)], (.ref 1007 2), [], []⟩, .a, .m (some 39) ⟨[(38, (vI ((b.Teams.length : Nat) : Int))), (32, (vB false))], [], (vI (((b.Teams.length : Nat) : Int) - 1)), [], []⟩, .m (some 40) ⟨[(34, (vI ((nth x.Targets j).Index))), (39, (vI (((b.Teams.length : Nat) : Int) - 1))), (32, (vB false))], [], (vB (inB ((nth x.Targets j).Index) 0 (((b.Teams.length : Nat) : Int) - 1))), [], []⟩, .a, .a] ⟨StepOK.p rfl rfl rfl (OpOK.call rfl (by kernel_rfl) rfl (by have hq := (pol_in ((nth x.Targets j).Kind) 0 2); rw [hs7] at hq; exact hq) (by kernel_rfl)),
        StepOK.g rfl rfl rfl rfl rfl (by simp) (OpOK.indexArr (e := 3) (len := 3) (es := 1) (i := 2) rfl (by kernel_rfl) (by kernel_rfl) rfl rfl (by omega) (by decide) rfl),
        StepOK.g rfl rfl rfl rfl rfl (by simp) (OpOK.sub rfl rfl rfl (IntWalk.i64_in _ ⟨by omega, by omega⟩)),
        StepOK.g rfl rfl rfl rfl rfl (by simp) (OpOK.call rfl (by kernel_rfl) rfl (pol_in ((nth x.Targets j).Index) 0 (((b.Teams.length : Nat) : Int) - 1)) (by kernel_rfl)), trivial⟩ [(7, (.ref 1007 0)), (22, a'7), (23, (vI ((x.Targets.length : Nat) : Int))), (24, (vI ((j : Nat) : Int))), (42, (vB (!(inB ((nth x.Targets j).Index) 0 (((b.Teams.length : Nat) : Int) - 1)))))] [(1007, a'11)] (by kernel_rfl) (by kernel_rfl) (by kernel_rfl) ?_
       refine AWp.cond (!(inB ((nth x.Targets j).Index) 0 (((b.Teams.length : Nat) : Int) - 1))) rfl (fun hc18 => ?_) (fun hc18 => ?_)
       ·skip
        replace hc18 : inB ((nth x.Targets j).Index) 0 (((b.Teams.length : Nat) : Int) - 1) = false := by simpa using hc18
        have ha19 := inB_false hc18
        refine AWp.s_reg hGn hGk (aa 1) (Man.aa _ _) [(6, (vI 3))] [] (by kernel_rfl) (by kernel_rfl) ?_
        refine AWp.ret ?_
        refine blockQ_ret ?_
        refine nextQ_ret ?_
        refine nextQ_ret ?_
        refine blockQ_ret ?_
        refine nextQ_ret ?_
        refine fin_of (.inr rfl) (v := (vI 3)) (Res.tmp rfl rfl) (h' := []) rfl rfl ?_
        exact ⟨by rw [show stepErr c.People.length c.Schedules.length b.Teams.length x = 3 from by unfold stepErr; rw [if_neg (by simp [*]), targetsErr, if_neg (by omega)]; exact firstN_err hz (by omega) (by first | exact target_bad (by assumption) | exact target_no (by assumption) (by omega)) (by decide)], rfl⟩
       ·skip
        replace hc18 : inB ((nth x.Targets j).Index) 0 (((b.Teams.length : Nat) : Int) - 1) = true := by simpa using hc18
        have ha20 := inB_spec hc18
        refine AWp.skip ?_
        refine blockQ_normal ?_
        refine nextQ_normal ?_
        refine AWp.reg' hGn hGk [.m (some 43) ⟨[(24, (vI ((j : Nat) : Int)))], [], (vI ((j + 1 : Nat) : Int)), [], []⟩, .a] ⟨StepOK.p rfl rfl rfl (OpOK.add rfl rfl rfl (by rw [IntWalk.i64_in _ ⟨by omega, by omega⟩]; omega)), trivial⟩ [(7, (.ref 1007 0)), (22, a'7), (23, (vI ((x.Targets.length : Nat) : Int))), (24, (vI ((j + 1 : Nat) : Int)))] [(1007, a'11)] (by kernel_rfl) (by kernel_rfl) ?_
        refine nextQ_normal ⟨_, ?_, (j + 1), rfl, (by omega), (firstN_step hz (by first | exact target_ok (by assumption) (by omega))), rfl⟩
        · omega
   ·skip
    replace hc6 := of_decide_eq_false hc6
    refine AWp.weaken (mk [] []) (Weak.sub' hGk (by kernel_rfl)) ?_
    refine AWp.exit ?_
    refine nextQ_exit ?_
    refine nextQ_exit ?_
    refine blockQ_exit ?_
    refine nextQ_normal ?_
    refine AWp.s_reg hGn hGk (aa 1) (Man.aa _ _) [(6, (vI 0))] [] (by kernel_rfl) (by kernel_rfl) ?_
    refine AWp.ret ?_
    refine fin_of (.inr rfl) (v := (vI 0)) (Res.tmp rfl rfl) (h' := []) rfl rfl ?_
    exact ⟨by rw [show stepErr c.People.length c.Schedules.length b.Teams.length x = 0 from by unfold stepErr; rw [if_neg (by simp [*]), targetsErr, if_neg (by omega), show x.Targets.length = j by omega]; exact hz], rfl⟩
theorem pol_check (c : D.Config) (b : D.Book) (i : Nat) (hi : i < b.Policies.length) (hl : b.Policies.length ≤ 1000) (hP : c.People.length ≤ 1000) (hS : c.Schedules.length ≤ 1000) (hT : b.Teams.length ≤ 1000) :
    SpecIs Tryz.prog 93 [(.agg [(.p (.sl false 3 (c.Zones.map D.Zone.cells))), (.p (.sl false 6 (c.People.map D.Person.cells))), (.p (.sl false 3 (c.Calendars.map D.Calendar.cells))), (.p (.sl false 3 (c.Schedules.map D.Schedule.cells)))]), (.agg [(.p (.sl false 2 (b.Teams.map D.Team.cells))), (.p (.sl false 3 (b.Policies.map D.Policy.cells)))]), (vI ((i : Nat) : Int))] [] (vI (policyErr c.People.length c.Schedules.length b i)) [] := by
 refine Spec.intro Tryz.func93 rfl (by kernel_rfl) ?_
 intro Γ hGn hGk
 replace hGn : Γ.n = 55 := hGn
 replace hGk : Γ.names = [] := hGk
 let a'1 : AV := (.p (.sl false 3 (c.Zones.map D.Zone.cells)))
 let a'2 : AV := (.p (.sl false 6 (c.People.map D.Person.cells)))
 let a'3 : AV := (.p (.sl false 3 (c.Calendars.map D.Calendar.cells)))
 let a'4 : AV := (.p (.sl false 3 (c.Schedules.map D.Schedule.cells)))
 let a'5 : AV := (.p (.sl false 2 (b.Teams.map D.Team.cells)))
 let a'6 : AV := (.p (.sl false 3 (b.Policies.map D.Policy.cells)))
 refine AWp.weaken (mk [(0, (.agg [a'1, a'2, a'3, a'4])), (1, (.agg [a'5, a'6])), (2, (vI ((i : Nat) : Int)))] []) (Weak.sub' hGk (by kernel_rfl)) ?_
 let a'7 : AO := (.box [a'1, a'2, a'3, a'4])
 let a'8 : AO := (.box [a'5, a'6])
 refine AWp.s_reg hGn hGk (aa 3) (Man.aa _ _) [(2, (vI ((i : Nat) : Int))), (3, (.ref 1003 0)), (4, (.ref 1004 0))] [(1003, a'7), (1004, a'8)] (by kernel_rfl) (by kernel_rfl) ?_
 let a'9 : AV := (.p (.sl false 3 (((nth b.Policies i).Steps).map D.PolicyStep.cells)))
 let a'10 : AO := (.box [(vS ((nth b.Policies i).Name)), a'9, (vI ((nth b.Policies i).Repeat))])
 refine AWp.s_reg hGn hGk [.a, .a, .a, .m (some 14) ⟨[(12, a'6), (13, (vI ((i : Nat) : Int)))], [], (.eptr [(pS ((nth b.Policies i).Name)), (.sl false 3 (((nth b.Policies i).Steps).map D.PolicyStep.cells)), (pI ((nth b.Policies i).Repeat))]), [], []⟩, .a, .a, .a] ⟨StepOK.p rfl rfl rfl (OpOK.indexP (e := 106) rfl (by kernel_rfl) (by kernel_rfl) rfl rfl rfl (map_nth (by omega))), trivial⟩ [(2, (vI ((i : Nat) : Int))), (3, (.ref 1003 0)), (4, (.ref 1004 0)), (7, (.ref 1007 0))] [(1003, a'7), (1004, a'8), (1007, a'10)] (by kernel_rfl) (by kernel_rfl) ?_
 refine AWp.seq ?_
 refine AWp.block ?_
 refine AWp.s_reg hGn hGk [.a, .a, .m (some 19) ⟨[(18, (vS ((nth b.Policies i).Name)))], [], (vB (nameOK ((nth b.Policies i).Name))), [], []⟩, .a, .a] ⟨StepOK.p rfl rfl rfl (OpOK.call rfl (by kernel_rfl) rfl (lex_Name ((nth b.Policies i).Name)) (by kernel_rfl)), trivial⟩ [(2, (vI ((i : Nat) : Int))), (3, (.ref 1003 0)), (4, (.ref 1004 0)), (7, (.ref 1007 0)), (16, (vB (!(nameOK ((nth b.Policies i).Name)))))] [(1003, a'7), (1004, a'8), (1007, a'10)] (by kernel_rfl) (by kernel_rfl) ?_
 refine AWp.cond (!(nameOK ((nth b.Policies i).Name))) rfl (fun hc1 => ?_) (fun hc1 => ?_)
 ·skip
  replace hc1 : nameOK ((nth b.Policies i).Name) = false := by simpa using hc1
  refine AWp.s_reg hGn hGk (aa 1) (Man.aa _ _) [(6, (vI 8))] [] (by kernel_rfl) (by kernel_rfl) ?_
  refine AWp.ret ?_
  refine blockQ_ret ?_
  refine nextQ_ret ?_
  refine fin_of (.inr rfl) (v := (vI 8)) (Res.tmp rfl rfl) (h' := []) rfl rfl ?_
  exact ⟨by rw [show policyErr c.People.length c.Schedules.length b i = 8 from by unfold policyErr; rw [if_pos (by assumption)]], rfl⟩
 ·skip
  replace hc1 : nameOK ((nth b.Policies i).Name) = true := by simpa using hc1
  refine AWp.s_reg hGn hGk [.a, .a, .m (some 24) ⟨[(22, (vI ((i : Nat) : Int))), (23, (.clo (.func 134) [] [(.ref 1004 0)]))], [(1004, a'8)], (vB (earlierB (pnames b) i)), [(1004, a'8)], []⟩, .a] ⟨StepOK.p rfl rfl rfl (OpOK.call rfl (by kernel_rfl) rfl (pol_earlierP b i (by omega) (by omega)) (by kernel_rfl)), trivial⟩ [(3, (.ref 1003 0)), (4, (.ref 1004 0)), (7, (.ref 1007 0)), (21, (vB (earlierB (pnames b) i)))] [(1003, a'7), (1004, a'8), (1007, a'10)] (by kernel_rfl) (by kernel_rfl) ?_
  refine AWp.cond (earlierB (pnames b) i) rfl (fun hc2 => ?_) (fun hc2 => ?_)
  ·skip
   refine AWp.s_reg hGn hGk (aa 1) (Man.aa _ _) [(6, (vI 4))] [] (by kernel_rfl) (by kernel_rfl) ?_
   refine AWp.ret ?_
   refine blockQ_ret ?_
   refine nextQ_ret ?_
   refine fin_of (.inr rfl) (v := (vI 4)) (Res.tmp rfl rfl) (h' := []) rfl rfl ?_
   exact ⟨by rw [show policyErr c.People.length c.Schedules.length b i = 4 from by unfold policyErr; rw [if_neg (by simp [*]), if_pos (by assumption)]], rfl⟩
  ·skip
   refine AWp.s_reg hGn hGk [.a, .a, .m (some 28) ⟨[(27, a'9)], [], (vI ((((nth b.Policies i).Steps).length : Nat) : Int)), [], []⟩, .a, .a] ⟨StepOK.p rfl rfl rfl (OpOK.lenP (e := 103) rfl rfl (by kernel_rfl) rfl (by rw [List.length_map])), trivial⟩ [(3, (.ref 1003 0)), (4, (.ref 1004 0)), (7, (.ref 1007 0)), (25, (vB (decide (((((nth b.Policies i).Steps).length : Nat) : Int) = (0 : Int)))))] [(1003, a'7), (1004, a'8), (1007, a'10)] (by kernel_rfl) (by kernel_rfl) ?_
   refine AWp.cond (decide (((((nth b.Policies i).Steps).length : Nat) : Int) = (0 : Int))) rfl (fun hc3 => ?_) (fun hc3 => ?_)
   ·skip
    replace hc3 := of_decide_eq_true hc3
    refine AWp.s_reg hGn hGk (aa 1) (Man.aa _ _) [(6, (vI 7))] [] (by kernel_rfl) (by kernel_rfl) ?_
    refine AWp.ret ?_
    refine blockQ_ret ?_
    refine nextQ_ret ?_
    refine fin_of (.inr rfl) (v := (vI 7)) (Res.tmp rfl rfl) (h' := []) rfl rfl ?_
    exact ⟨by rw [show policyErr c.People.length c.Schedules.length b i = 7 from by unfold policyErr; rw [if_neg (by simp [*]), if_neg (by simp [*]), if_pos (by omega)]], rfl⟩
   ·skip
    replace hc3 := of_decide_eq_false hc3
    refine AWp.s_reg hGn hGk [.a, .a, .m (some 33) ⟨[(32, a'9)], [], (vI ((((nth b.Policies i).Steps).length : Nat) : Int)), [], []⟩, .a, .a] ⟨StepOK.p rfl rfl rfl (OpOK.lenP (e := 103) rfl rfl (by kernel_rfl) rfl (by rw [List.length_map])), trivial⟩ [(3, (.ref 1003 0)), (4, (.ref 1004 0)), (7, (.ref 1007 0)), (30, (vB (decide ((8 : Int) < ((((nth b.Policies i).Steps).length : Nat) : Int)))))] [(1003, a'7), (1004, a'8), (1007, a'10)] (by kernel_rfl) (by kernel_rfl) ?_
    refine AWp.cond (decide ((8 : Int) < ((((nth b.Policies i).Steps).length : Nat) : Int))) rfl (fun hc4 => ?_) (fun hc4 => ?_)
    ·skip
     replace hc4 := of_decide_eq_true hc4
     refine AWp.s_reg hGn hGk (aa 1) (Man.aa _ _) [(6, (vI 5))] [] (by kernel_rfl) (by kernel_rfl) ?_
     refine AWp.ret ?_
     refine blockQ_ret ?_
     refine nextQ_ret ?_
     refine fin_of (.inr rfl) (v := (vI 5)) (Res.tmp rfl rfl) (h' := []) rfl rfl ?_
     exact ⟨by rw [show policyErr c.People.length c.Schedules.length b i = 5 from by unfold policyErr; rw [if_neg (by simp [*]), if_neg (by simp [*]), if_neg (by omega), if_pos (by omega)]], rfl⟩
    ·skip
     replace hc4 := of_decide_eq_false hc4
     refine AWp.s_reg hGn hGk [.a, .a, .m (some 38) ⟨[(37, (vI ((nth b.Policies i).Repeat)))], [], (vB (inB ((nth b.Policies i).Repeat) 0 8)), [], []⟩, .a, .a] ⟨StepOK.p rfl rfl rfl (OpOK.call rfl (by kernel_rfl) rfl (pol_in ((nth b.Policies i).Repeat) 0 8) (by kernel_rfl)), trivial⟩ [(3, (.ref 1003 0)), (4, (.ref 1004 0)), (7, (.ref 1007 0)), (35, (vB (!(inB ((nth b.Policies i).Repeat) 0 8))))] [(1003, a'7), (1004, a'8), (1007, a'10)] (by kernel_rfl) (by kernel_rfl) ?_
     refine AWp.cond (!(inB ((nth b.Policies i).Repeat) 0 8)) rfl (fun hc5 => ?_) (fun hc5 => ?_)
     ·skip
      replace hc5 : inB ((nth b.Policies i).Repeat) 0 8 = false := by simpa using hc5
      have ha6 := inB_false hc5
      refine AWp.s_reg hGn hGk (aa 1) (Man.aa _ _) [(6, (vI 1))] [] (by kernel_rfl) (by kernel_rfl) ?_
      refine AWp.ret ?_
      refine blockQ_ret ?_
      refine nextQ_ret ?_
      refine fin_of (.inr rfl) (v := (vI 1)) (Res.tmp rfl rfl) (h' := []) rfl rfl ?_
      exact ⟨by rw [show policyErr c.People.length c.Schedules.length b i = 1 from by unfold policyErr; rw [if_neg (by simp [*]), if_neg (by simp [*]), if_neg (by omega), if_neg (by omega), if_pos (by assumption)]], rfl⟩
     ·skip
      replace hc5 : inB ((nth b.Policies i).Repeat) 0 8 = true := by simpa using hc5
      have ha7 := inB_spec hc5
      refine AWp.skip ?_
      refine blockQ_normal ?_
      refine nextQ_normal ?_
      refine AWp.seq ?_
      refine AWp.s_reg hGn hGk [.a, .a, .m (some 42) ⟨[(41, a'9)], [], (vI ((((nth b.Policies i).Steps).length : Nat) : Int)), [], []⟩, .a] ⟨StepOK.p rfl rfl rfl (OpOK.lenP (e := 103) rfl rfl (by kernel_rfl) rfl (by rw [List.length_map])), trivial⟩ [(3, (.ref 1003 0)), (4, (.ref 1004 0)), (41, a'9), (42, (vI ((((nth b.Policies i).Steps).length : Nat) : Int))), (43, (vI 0))] [(1003, a'7), (1004, a'8)] (by kernel_rfl) (by kernel_rfl) ?_
      refine AWp.block ?_
      refine AWp.loop (fun m s => ∃ k, s = (mk [(3, (.ref 1003 0)), (4, (.ref 1004 0)), (41, (.p (.sl false 3 (((nth b.Policies i).Steps).map D.PolicyStep.cells)))), (42, (vI ((((nth b.Policies i).Steps).length : Nat) : Int))), (43, (vI ((k : Nat) : Int)))] [(1003, (.box [(.p (.sl false 3 (c.Zones.map D.Zone.cells))), (.p (.sl false 6 (c.People.map D.Person.cells))), (.p (.sl false 3 (c.Calendars.map D.Calendar.cells))), (.p (.sl false 3 (c.Schedules.map D.Schedule.cells)))])), (1004, (.box [(.p (.sl false 2 (b.Teams.map D.Team.cells))), (.p (.sl false 3 (b.Policies.map D.Policy.cells)))]))]) ∧ (k ≤ (nth b.Policies i).Steps.length) ∧ (firstN (fun k => stepErr c.People.length c.Schedules.length b.Teams.length (nth (nth b.Policies i).Steps k)) k = 0) ∧ m = ((nth b.Policies i).Steps.length - k))
       ⟨_, 0, rfl, (by omega), rfl, rfl⟩ ?_
      rintro mm8 s ⟨k, rfl, hk, hz, hmm8⟩
      refine AWp.s_reg hGn hGk (aa 1) (Man.aa _ _) [(3, (.ref 1003 0)), (4, (.ref 1004 0)), (41, a'9), (42, (vI ((((nth b.Policies i).Steps).length : Nat) : Int))), (43, (vI ((k : Nat) : Int))), (44, (vB (decide (((k : Nat) : Int) < ((((nth b.Policies i).Steps).length : Nat) : Int)))))] [(1003, a'7), (1004, a'8)] (by kernel_rfl) (by kernel_rfl) ?_
      refine AWp.seq ?_
      refine AWp.cond (decide (((k : Nat) : Int) < ((((nth b.Policies i).Steps).length : Nat) : Int))) rfl (fun hc9 => ?_) (fun hc9 => ?_)
      ·skip
       replace hc9 := of_decide_eq_true hc9
       refine AWp.skip ?_
       refine nextQ_normal ?_
       refine AWp.seq ?_
       refine AWp.block ?_
       refine AWp.s_reg hGn hGk [.m (some 45) ⟨[(41, a'9), (43, (vI ((k : Nat) : Int)))], [], (.eptr [(pI ((nth ((nth b.Policies i).Steps) k).Wait)), (pB ((nth ((nth b.Policies i).Steps) k).Urgent)), (.sl false 2 (((nth ((nth b.Policies i).Steps) k).Targets).map D.Target.cells))]), [], []⟩, .a, .a, .a] ⟨StepOK.p rfl rfl rfl (OpOK.indexP (e := 103) rfl (by kernel_rfl) (by kernel_rfl) rfl rfl rfl (map_nth (by omega))), trivial⟩ [(3, (.ref 1003 0)), (4, (.ref 1004 0)), (9, (.ref 1009 0)), (41, a'9), (42, (vI ((((nth b.Policies i).Steps).length : Nat) : Int))), (43, (vI ((k : Nat) : Int)))] [(1003, a'7), (1004, a'8), (1009, (.box [(vI ((nth ((nth b.Policies i).Steps) k).Wait)), (vB ((nth ((nth b.Policies i).Steps) k).Urgent)), (.p (.sl false 2 (((nth ((nth b.Policies i).Steps) k).Targets).map D.Target.cells)))]))] (by kernel_rfl) (by kernel_rfl) ?_
       refine AWp.s_reg hGn hGk [.a, .a, .a, .m (some 50) ⟨[(47, (.agg [a'1, a'2, a'3, a'4])), (48, (.agg [a'5, a'6])), (49, (.agg [(vI ((nth ((nth b.Policies i).Steps) k).Wait)), (vB ((nth ((nth b.Policies i).Steps) k).Urgent)), (.p (.sl false 2 (((nth ((nth b.Policies i).Steps) k).Targets).map D.Target.cells)))]))], [], (vI (stepErr c.People.length c.Schedules.length b.Teams.length (nth ((nth b.Policies i).Steps) k))), [], []⟩, .a] ⟨StepOK.p rfl rfl rfl (OpOK.call rfl (by kernel_rfl) rfl (pol_step c b (nth ((nth b.Policies i).Steps) k) hP hS hT) (by kernel_rfl)), trivial⟩ [(3, (.ref 1003 0)), (4, (.ref 1004 0)), (10, (vI (stepErr c.People.length c.Schedules.length b.Teams.length (nth ((nth b.Policies i).Steps) k)))), (41, a'9), (42, (vI ((((nth b.Policies i).Steps).length : Nat) : Int))), (43, (vI ((k : Nat) : Int)))] [(1003, a'7), (1004, a'8)] (by kernel_rfl) (by kernel_rfl) ?_
       refine AWp.s_reg hGn hGk (aa 2) (Man.aa _ _) [(3, (.ref 1003 0)), (4, (.ref 1004 0)), (10, (vI (stepErr c.People.length c.Schedules.length b.Teams.length (nth ((nth b.Policies i).Steps) k)))), (41, a'9), (42, (vI ((((nth b.Policies i).Steps).length : Nat) : Int))), (43, (vI ((k : Nat) : Int))), (52, (vB (decide ((stepErr c.People.length c.Schedules.length b.Teams.length (nth ((nth b.Policies i).Steps) k)) ≠ (0 : Int)))))] [(1003, a'7), (1004, a'8)] (by kernel_rfl) (by kernel_rfl) ?_
       refine AWp.cond (decide ((stepErr c.People.length c.Schedules.length b.Teams.length (nth ((nth b.Policies i).Steps) k)) ≠ (0 : Int))) rfl (fun hc10 => ?_) (fun hc10 => ?_)
       ·skip
        replace hc10 := of_decide_eq_true hc10
        refine AWp.s_reg hGn hGk (aa 2) (Man.aa _ _) [(6, (vI (stepErr c.People.length c.Schedules.length b.Teams.length (nth ((nth b.Policies i).Steps) k))))] [] (by kernel_rfl) (by kernel_rfl) ?_
        refine AWp.ret ?_
        refine blockQ_ret ?_
        refine nextQ_ret ?_
        refine nextQ_ret ?_
        refine blockQ_ret ?_
        refine nextQ_ret ?_
        refine fin_of (.inr rfl) (v := (vI (stepErr c.People.length c.Schedules.length b.Teams.length (nth ((nth b.Policies i).Steps) k)))) (Res.tmp rfl rfl) (h' := []) rfl rfl ?_
        exact ⟨by rw [show policyErr c.People.length c.Schedules.length b i = stepErr c.People.length c.Schedules.length b.Teams.length (nth ((nth b.Policies i).Steps) k) from by unfold policyErr; rw [if_neg (by simp [*]), if_neg (by simp [*]), if_neg (by omega), if_neg (by omega), if_neg (by simp [*])]; exact firstN_err hz (by omega) rfl (by assumption)], rfl⟩
       ·skip
        replace hc10 := of_decide_eq_false hc10
        refine AWp.skip ?_
        refine blockQ_normal ?_
        refine nextQ_normal ?_
        refine AWp.reg' hGn hGk [.m (some 54) ⟨[(43, (vI ((k : Nat) : Int)))], [], (vI ((k + 1 : Nat) : Int)), [], []⟩, .a] ⟨StepOK.p rfl rfl rfl (OpOK.add rfl rfl rfl (by rw [IntWalk.i64_in _ ⟨by omega, by omega⟩]; omega)), trivial⟩ [(3, (.ref 1003 0)), (4, (.ref 1004 0)), (41, a'9), (42, (vI ((((nth b.Policies i).Steps).length : Nat) : Int))), (43, (vI ((k + 1 : Nat) : Int)))] [(1003, a'7), (1004, a'8)] (by kernel_rfl) (by kernel_rfl) ?_
        refine nextQ_normal ⟨_, ?_, (k + 1), rfl, (by omega), (firstN_step hz (by first | assumption | omega)), rfl⟩
        · omega
      ·skip
       replace hc9 := of_decide_eq_false hc9
       refine AWp.weaken (mk [] []) (Weak.sub' hGk (by kernel_rfl)) ?_
       refine AWp.exit ?_
       refine nextQ_exit ?_
       refine nextQ_exit ?_
       refine blockQ_exit ?_
       refine nextQ_normal ?_
       refine AWp.s_reg hGn hGk (aa 1) (Man.aa _ _) [(6, (vI 0))] [] (by kernel_rfl) (by kernel_rfl) ?_
       refine AWp.ret ?_
       refine fin_of (.inr rfl) (v := (vI 0)) (Res.tmp rfl rfl) (h' := []) rfl rfl ?_
       exact ⟨by rw [show policyErr c.People.length c.Schedules.length b i = 0 from by unfold policyErr; rw [if_neg (by simp [*]), if_neg (by simp [*]), if_neg (by omega), if_neg (by omega), if_neg (by simp [*]), show (nth b.Policies i).Steps.length = k by omega]; exact hz], rfl⟩
theorem pol_Check (c : D.Config) (b : D.Book) (hP : c.People.length ≤ 1000) (hS : c.Schedules.length ≤ 1000) (hM : ∀ t ∈ b.Teams, t.Members.length ≤ 9223372036854775807) (hcfg : SpecIs Tryz.prog 39 [(.agg [(.p (.sl false 3 (c.Zones.map D.Zone.cells))), (.p (.sl false 6 (c.People.map D.Person.cells))), (.p (.sl false 3 (c.Calendars.map D.Calendar.cells))), (.p (.sl false 3 (c.Schedules.map D.Schedule.cells)))])] [] (vI 0) []) :
    SpecIs Tryz.prog 58 [(.agg [(.p (.sl false 3 (c.Zones.map D.Zone.cells))), (.p (.sl false 6 (c.People.map D.Person.cells))), (.p (.sl false 3 (c.Calendars.map D.Calendar.cells))), (.p (.sl false 3 (c.Schedules.map D.Schedule.cells)))]), (.agg [(.p (.sl false 2 (b.Teams.map D.Team.cells))), (.p (.sl false 3 (b.Policies.map D.Policy.cells)))])] [] (vI (bookErr c.People.length c.Schedules.length b)) [] := by
 refine Spec.intro Tryz.func58 rfl (by kernel_rfl) ?_
 intro Γ hGn hGk
 replace hGn : Γ.n = 60 := hGn
 replace hGk : Γ.names = [] := hGk
 let a'1 : AV := (.p (.sl false 3 (c.Zones.map D.Zone.cells)))
 let a'2 : AV := (.p (.sl false 6 (c.People.map D.Person.cells)))
 let a'3 : AV := (.p (.sl false 3 (c.Calendars.map D.Calendar.cells)))
 let a'4 : AV := (.p (.sl false 3 (c.Schedules.map D.Schedule.cells)))
 let a'5 : AV := (.agg [a'1, a'2, a'3, a'4])
 let a'6 : AV := (.p (.sl false 2 (b.Teams.map D.Team.cells)))
 let a'7 : AV := (.p (.sl false 3 (b.Policies.map D.Policy.cells)))
 refine AWp.weaken (mk [(0, a'5), (1, (.agg [a'6, a'7]))] []) (Weak.sub' hGk (by kernel_rfl)) ?_
 let a'8 : AO := (.box [a'1, a'2, a'3, a'4])
 let a'9 : AO := (.box [a'6, a'7])
 refine AWp.s_reg hGn hGk (aa 3) (Man.aa _ _) [(2, (.ref 1002 0)), (3, (.ref 1003 0))] [(1002, a'8), (1003, a'9)] (by kernel_rfl) (by kernel_rfl) ?_
 refine AWp.seq ?_
 refine AWp.s_reg hGn hGk [.a, .m (some 11) ⟨[(10, a'5)], [], (vI 0), [], []⟩, .a] ⟨StepOK.p rfl rfl rfl (OpOK.call rfl (by kernel_rfl) rfl hcfg (by kernel_rfl)), trivial⟩ [(2, (.ref 1002 0)), (3, (.ref 1003 0)), (12, (vB false))] [(1002, a'8), (1003, a'9)] (by kernel_rfl) (by kernel_rfl) ?_
 refine AWp.cond_false rfl ?_
 refine AWp.skip ?_
 refine nextQ_normal ?_
 refine AWp.seq ?_
 by_cases hs1 : (8 : Int) < ((b.Teams.length : Nat) : Int)
 ·skip
  refine AWp.s_reg hGn hGk [.a, .a, .m (some 15) ⟨[(14, a'6)], [], (vI ((b.Teams.length : Nat) : Int)), [], []⟩, .m (some 16) ⟨[(15, (vI ((b.Teams.length : Nat) : Int)))], [], (vB true), [], []⟩, .a, .a, .a, .a, .a, .a] ⟨StepOK.p rfl rfl rfl (OpOK.lenP (e := 111) rfl rfl (by kernel_rfl) rfl (by rw [List.length_map])),
   StepOK.p rfl rfl rfl (OpOK.gtr rfl rfl rfl (decide_eq_true hs1)), trivial⟩ [(2, (.ref 1002 0)), (3, (.ref 1003 0)), (22, (vB true))] [(1002, a'8), (1003, a'9)] (by kernel_rfl) (by kernel_rfl) ?_
  refine AWp.cond_true rfl ?_
  refine AWp.s_reg hGn hGk (aa 1) (Man.aa _ _) [(4, (vI 5))] [] (by kernel_rfl) (by kernel_rfl) ?_
  refine AWp.ret ?_
  refine nextQ_ret ?_
  refine fin_of (.inr rfl) (v := (vI 5)) (Res.tmp rfl rfl) (h' := []) rfl rfl ?_
  exact ⟨by rw [show bookErr c.People.length c.Schedules.length b = 5 from by unfold bookErr; rw [if_pos (by omega)]], rfl⟩
 ·skip
  refine AWp.s_reg hGn hGk [.a, .a, .m (some 15) ⟨[(14, a'6)], [], (vI ((b.Teams.length : Nat) : Int)), [], []⟩, .m (some 16) ⟨[(15, (vI ((b.Teams.length : Nat) : Int)))], [], (vB false), [], []⟩, .a, .a, .a, .m (some 20) ⟨[(19, a'7), (17, (vB false))], [], (vI ((b.Policies.length : Nat) : Int)), [], []⟩, .a, .a] ⟨StepOK.p rfl rfl rfl (OpOK.lenP (e := 111) rfl rfl (by kernel_rfl) rfl (by rw [List.length_map])),
   StepOK.p rfl rfl rfl (OpOK.gtr rfl rfl rfl (decide_eq_false hs1)),
   StepOK.g rfl rfl rfl rfl rfl (by simp) (OpOK.lenP (e := 106) rfl rfl (by kernel_rfl) rfl (by rw [List.length_map])), trivial⟩ [(2, (.ref 1002 0)), (3, (.ref 1003 0)), (22, (vB (decide ((12 : Int) < ((b.Policies.length : Nat) : Int)))))] [(1002, a'8), (1003, a'9)] (by kernel_rfl) (by kernel_rfl) ?_
  refine AWp.cond (decide ((12 : Int) < ((b.Policies.length : Nat) : Int))) rfl (fun hc2 => ?_) (fun hc2 => ?_)
  ·skip
   replace hc2 := of_decide_eq_true hc2
   refine AWp.s_reg hGn hGk (aa 1) (Man.aa _ _) [(4, (vI 5))] [] (by kernel_rfl) (by kernel_rfl) ?_
   refine AWp.ret ?_
   refine nextQ_ret ?_
   refine fin_of (.inr rfl) (v := (vI 5)) (Res.tmp rfl rfl) (h' := []) rfl rfl ?_
   exact ⟨by rw [show bookErr c.People.length c.Schedules.length b = 5 from by unfold bookErr; rw [if_pos (by omega)]], rfl⟩
  ·skip
   replace hc2 := of_decide_eq_false hc2
   refine AWp.skip ?_
   refine nextQ_normal ?_
   refine AWp.seq ?_
   refine AWp.s_reg hGn hGk [.a, .a, .m (some 25) ⟨[(24, a'6)], [], (vI ((b.Teams.length : Nat) : Int)), [], []⟩, .a] ⟨StepOK.p rfl rfl rfl (OpOK.lenP (e := 111) rfl rfl (by kernel_rfl) rfl (by rw [List.length_map])), trivial⟩ [(2, (.ref 1002 0)), (3, (.ref 1003 0)), (24, a'6), (25, (vI ((b.Teams.length : Nat) : Int))), (26, (vI 0))] [(1002, a'8), (1003, a'9)] (by kernel_rfl) (by kernel_rfl) ?_
   refine AWp.block ?_
   refine AWp.loop (fun m s => ∃ i, s = (mk [(2, (.ref 1002 0)), (3, (.ref 1003 0)), (24, (.p (.sl false 2 (b.Teams.map D.Team.cells)))), (25, (vI ((b.Teams.length : Nat) : Int))), (26, (vI ((i : Nat) : Int)))] [(1002, (.box [(.p (.sl false 3 (c.Zones.map D.Zone.cells))), (.p (.sl false 6 (c.People.map D.Person.cells))), (.p (.sl false 3 (c.Calendars.map D.Calendar.cells))), (.p (.sl false 3 (c.Schedules.map D.Schedule.cells)))])), (1003, (.box [(.p (.sl false 2 (b.Teams.map D.Team.cells))), (.p (.sl false 3 (b.Policies.map D.Policy.cells)))]))]) ∧ (i ≤ b.Teams.length) ∧ (firstN (teamErr c.People.length b) i = 0) ∧ m = (b.Teams.length - i))
    ⟨_, 0, rfl, (by omega), rfl, rfl⟩ ?_
   rintro mm3 s ⟨i, rfl, hi, hz, hmm3⟩
   refine AWp.s_reg hGn hGk (aa 1) (Man.aa _ _) [(2, (.ref 1002 0)), (3, (.ref 1003 0)), (24, a'6), (25, (vI ((b.Teams.length : Nat) : Int))), (26, (vI ((i : Nat) : Int))), (27, (vB (decide (((i : Nat) : Int) < ((b.Teams.length : Nat) : Int)))))] [(1002, a'8), (1003, a'9)] (by kernel_rfl) (by kernel_rfl) ?_
   refine AWp.seq ?_
   refine AWp.cond (decide (((i : Nat) : Int) < ((b.Teams.length : Nat) : Int))) rfl (fun hc4 => ?_) (fun hc4 => ?_)
   ·skip
    replace hc4 := of_decide_eq_true hc4
    refine AWp.skip ?_
    refine nextQ_normal ?_
    refine AWp.seq ?_
    refine AWp.block ?_
    let a'10 : AV := (.p (.sl false 1 (((nth b.Teams i).Members).map D.cInt)))
    let a'11 : AO := (.box [(vS ((nth b.Teams i).Name)), a'10])
    refine AWp.s_reg hGn hGk [.a, .m (some 29) ⟨[(24, a'6), (26, (vI ((i : Nat) : Int)))], [], (.eptr [(pS ((nth b.Teams i).Name)), (.sl false 1 (((nth b.Teams i).Members).map D.cInt))]), [], []⟩, .a, .a, .a, .a] ⟨StepOK.p rfl rfl rfl (OpOK.indexP (e := 111) rfl (by kernel_rfl) (by kernel_rfl) rfl rfl rfl (map_nth (by omega))), trivial⟩ [(2, (.ref 1002 0)), (3, (.ref 1003 0)), (5, (vI ((i : Nat) : Int))), (6, (.ref 1006 0)), (24, a'6), (25, (vI ((b.Teams.length : Nat) : Int))), (26, (vI ((i : Nat) : Int)))] [(1002, a'8), (1003, a'9), (1006, a'11)] (by kernel_rfl) (by kernel_rfl) ?_
    refine AWp.seq ?_
    refine AWp.s_reg hGn hGk [.a, .a, .m (some 33) ⟨[(32, (vS ((nth b.Teams i).Name)))], [], (vB (nameOK ((nth b.Teams i).Name))), [], []⟩, .a] ⟨StepOK.p rfl rfl rfl (OpOK.call rfl (by kernel_rfl) rfl (lex_Name ((nth b.Teams i).Name)) (by kernel_rfl)), trivial⟩ [(2, (.ref 1002 0)), (3, (.ref 1003 0)), (5, (vI ((i : Nat) : Int))), (6, (.ref 1006 0)), (24, a'6), (25, (vI ((b.Teams.length : Nat) : Int))), (26, (vI ((i : Nat) : Int))), (34, (vB (!(nameOK ((nth b.Teams i).Name)))))] [(1002, a'8), (1003, a'9), (1006, a'11)] (by kernel_rfl) (by kernel_rfl) ?_
    refine AWp.cond (!(nameOK ((nth b.Teams i).Name))) rfl (fun hc5 => ?_) (fun hc5 => ?_)
    ·skip
     replace hc5 : nameOK ((nth b.Teams i).Name) = false := by simpa using hc5
     refine AWp.s_reg hGn hGk (aa 1) (Man.aa _ _) [(4, (vI 8))] [] (by kernel_rfl) (by kernel_rfl) ?_
     refine AWp.ret ?_
     refine nextQ_ret ?_
     refine blockQ_ret ?_
     refine nextQ_ret ?_
     refine nextQ_ret ?_
     refine blockQ_ret ?_
     refine nextQ_ret ?_
     refine fin_of (.inr rfl) (v := (vI 8)) (Res.tmp rfl rfl) (h' := []) rfl rfl ?_
     exact ⟨by rw [show bookErr c.People.length c.Schedules.length b = 8 from by unfold bookErr; rw [if_neg (by omega)]; have h1 := firstN_err (n := b.Teams.length) hz (by omega) (show teamErr c.People.length b i = 8 from by unfold teamErr; rw [if_pos (by assumption)]) (by first | assumption | decide); rw [h1, if_neg (by first | assumption | decide)]], rfl⟩
    ·skip
     replace hc5 : nameOK ((nth b.Teams i).Name) = true := by simpa using hc5
     refine AWp.skip ?_
     refine nextQ_normal ?_
     refine AWp.seq ?_
     refine AWp.s_reg hGn hGk [.a, .a, .m (some 37) ⟨[(35, (vI ((i : Nat) : Int))), (36, (.clo (.func 91) [] [(.ref 1003 0)]))], [(1003, a'9)], (vB (earlierB (tnames b) i)), [(1003, a'9)], []⟩] ⟨StepOK.p rfl rfl rfl (OpOK.call rfl (by kernel_rfl) rfl (pol_earlierT b i (by omega) (by omega)) (by kernel_rfl)), trivial⟩ [(2, (.ref 1002 0)), (3, (.ref 1003 0)), (6, (.ref 1006 0)), (24, a'6), (25, (vI ((b.Teams.length : Nat) : Int))), (26, (vI ((i : Nat) : Int))), (37, (vB (earlierB (tnames b) i)))] [(1002, a'8), (1003, a'9), (1006, a'11)] (by kernel_rfl) (by kernel_rfl) ?_
     refine AWp.cond (earlierB (tnames b) i) rfl (fun hc6 => ?_) (fun hc6 => ?_)
     ·skip
      refine AWp.s_reg hGn hGk (aa 1) (Man.aa _ _) [(4, (vI 4))] [] (by kernel_rfl) (by kernel_rfl) ?_
      refine AWp.ret ?_
      refine nextQ_ret ?_
      refine blockQ_ret ?_
      refine nextQ_ret ?_
      refine nextQ_ret ?_
      refine blockQ_ret ?_
      refine nextQ_ret ?_
      refine fin_of (.inr rfl) (v := (vI 4)) (Res.tmp rfl rfl) (h' := []) rfl rfl ?_
      exact ⟨by rw [show bookErr c.People.length c.Schedules.length b = 4 from by unfold bookErr; rw [if_neg (by omega)]; have h1 := firstN_err (n := b.Teams.length) hz (by omega) (show teamErr c.People.length b i = 4 from by unfold teamErr; rw [if_neg (by simp [*]), if_pos (by assumption)]) (by first | assumption | decide); rw [h1, if_neg (by first | assumption | decide)]], rfl⟩
     ·skip
      refine AWp.skip ?_
      refine nextQ_normal ?_
      refine AWp.s_reg hGn hGk [.a, .a, .a, .m (some 41) ⟨[(38, a'5), (40, a'10)], [], (vI (setErr c.People.length ((nth b.Teams i).Members))), [], []⟩, .a] ⟨StepOK.p rfl rfl rfl (OpOK.call rfl (by kernel_rfl) rfl (pol_set c ((nth b.Teams i).Members) (by omega) (hM _ (nth_mem (by omega)))) (by kernel_rfl)), trivial⟩ [(2, (.ref 1002 0)), (3, (.ref 1003 0)), (7, (vI (setErr c.People.length ((nth b.Teams i).Members)))), (24, a'6), (25, (vI ((b.Teams.length : Nat) : Int))), (26, (vI ((i : Nat) : Int)))] [(1002, a'8), (1003, a'9)] (by kernel_rfl) (by kernel_rfl) ?_
      refine AWp.s_reg hGn hGk (aa 2) (Man.aa _ _) [(2, (.ref 1002 0)), (3, (.ref 1003 0)), (7, (vI (setErr c.People.length ((nth b.Teams i).Members)))), (24, a'6), (25, (vI ((b.Teams.length : Nat) : Int))), (26, (vI ((i : Nat) : Int))), (43, (vB (decide ((setErr c.People.length ((nth b.Teams i).Members)) ≠ (0 : Int)))))] [(1002, a'8), (1003, a'9)] (by kernel_rfl) (by kernel_rfl) ?_
      refine AWp.cond (decide ((setErr c.People.length ((nth b.Teams i).Members)) ≠ (0 : Int))) rfl (fun hc7 => ?_) (fun hc7 => ?_)
      ·skip
       replace hc7 := of_decide_eq_true hc7
       refine AWp.s_reg hGn hGk (aa 2) (Man.aa _ _) [(4, (vI (setErr c.People.length ((nth b.Teams i).Members))))] [] (by kernel_rfl) (by kernel_rfl) ?_
       refine AWp.ret ?_
       refine blockQ_ret ?_
       refine nextQ_ret ?_
       refine nextQ_ret ?_
       refine blockQ_ret ?_
       refine nextQ_ret ?_
       refine fin_of (.inr rfl) (v := (vI (setErr c.People.length ((nth b.Teams i).Members)))) (Res.tmp rfl rfl) (h' := []) rfl rfl ?_
       exact ⟨by rw [show bookErr c.People.length c.Schedules.length b = setErr c.People.length ((nth b.Teams i).Members) from by unfold bookErr; rw [if_neg (by omega)]; have h1 := firstN_err (n := b.Teams.length) hz (by omega) (show teamErr c.People.length b i = setErr c.People.length ((nth b.Teams i).Members) from by unfold teamErr; rw [if_neg (by simp [*]), if_neg (by simp [*])]) (by first | assumption | decide); rw [h1, if_neg (by first | assumption | decide)]], rfl⟩
      ·skip
       replace hc7 := of_decide_eq_false hc7
       refine AWp.skip ?_
       refine blockQ_normal ?_
       refine nextQ_normal ?_
       refine AWp.reg' hGn hGk [.m (some 45) ⟨[(26, (vI ((i : Nat) : Int)))], [], (vI ((i + 1 : Nat) : Int)), [], []⟩, .a] ⟨StepOK.p rfl rfl rfl (OpOK.add rfl rfl rfl (by rw [IntWalk.i64_in _ ⟨by omega, by omega⟩]; omega)), trivial⟩ [(2, (.ref 1002 0)), (3, (.ref 1003 0)), (24, a'6), (25, (vI ((b.Teams.length : Nat) : Int))), (26, (vI ((i + 1 : Nat) : Int)))] [(1002, a'8), (1003, a'9)] (by kernel_rfl) (by kernel_rfl) ?_
       refine nextQ_normal ⟨_, ?_, (i + 1), rfl, (by omega), (firstN_step hz (by unfold teamErr; rw [if_neg (by simp [*]), if_neg (by simp [*])]; first | assumption | omega)), rfl⟩
       · omega
   ·skip
    replace hc4 := of_decide_eq_false hc4
    refine AWp.weaken (mk [(2, (.ref 1002 0)), (3, (.ref 1003 0))] [(1002, a'8), (1003, a'9)]) (Weak.sub' hGk (by kernel_rfl)) ?_
    refine AWp.exit ?_
    refine nextQ_exit ?_
    refine nextQ_exit ?_
    refine blockQ_exit ?_
    refine nextQ_normal ?_
    refine AWp.seq ?_
    refine AWp.s_reg hGn hGk [.a, .a, .m (some 48) ⟨[(47, a'7)], [], (vI ((b.Policies.length : Nat) : Int)), [], []⟩, .a] ⟨StepOK.p rfl rfl rfl (OpOK.lenP (e := 106) rfl rfl (by kernel_rfl) rfl (by rw [List.length_map])), trivial⟩ [(2, (.ref 1002 0)), (3, (.ref 1003 0)), (48, (vI ((b.Policies.length : Nat) : Int))), (49, (vI 0))] [(1002, a'8), (1003, a'9)] (by kernel_rfl) (by kernel_rfl) ?_
    refine AWp.block ?_
    refine AWp.loop (fun m s => ∃ k, s = (mk [(2, (.ref 1002 0)), (3, (.ref 1003 0)), (48, (vI ((b.Policies.length : Nat) : Int))), (49, (vI ((k : Nat) : Int)))] [(1002, (.box [(.p (.sl false 3 (c.Zones.map D.Zone.cells))), (.p (.sl false 6 (c.People.map D.Person.cells))), (.p (.sl false 3 (c.Calendars.map D.Calendar.cells))), (.p (.sl false 3 (c.Schedules.map D.Schedule.cells)))])), (1003, (.box [(.p (.sl false 2 (b.Teams.map D.Team.cells))), (.p (.sl false 3 (b.Policies.map D.Policy.cells)))]))]) ∧ (k ≤ b.Policies.length) ∧ (firstN (policyErr c.People.length c.Schedules.length b) k = 0) ∧ m = (b.Policies.length - k))
     ⟨_, 0, rfl, (by omega), rfl, rfl⟩ ?_
    rintro mm8 s ⟨k, rfl, hk, hy, hmm8⟩
    refine AWp.s_reg hGn hGk (aa 1) (Man.aa _ _) [(2, (.ref 1002 0)), (3, (.ref 1003 0)), (48, (vI ((b.Policies.length : Nat) : Int))), (49, (vI ((k : Nat) : Int))), (50, (vB (decide (((k : Nat) : Int) < ((b.Policies.length : Nat) : Int)))))] [(1002, a'8), (1003, a'9)] (by kernel_rfl) (by kernel_rfl) ?_
    refine AWp.seq ?_
    refine AWp.cond (decide (((k : Nat) : Int) < ((b.Policies.length : Nat) : Int))) rfl (fun hc9 => ?_) (fun hc9 => ?_)
    ·skip
     replace hc9 := of_decide_eq_true hc9
     refine AWp.skip ?_
     refine nextQ_normal ?_
     refine AWp.seq ?_
     refine AWp.block ?_
     refine AWp.s_reg hGn hGk (aa 2) (Man.aa _ _) [(2, (.ref 1002 0)), (3, (.ref 1003 0)), (8, (vI ((k : Nat) : Int))), (48, (vI ((b.Policies.length : Nat) : Int))), (49, (vI ((k : Nat) : Int)))] [(1002, a'8), (1003, a'9)] (by kernel_rfl) (by kernel_rfl) ?_
     have hT : b.Teams.length ≤ 1000 := by omega
     refine AWp.s_reg hGn hGk [.a, .a, .a, .m (some 55) ⟨[(52, a'5), (53, (.agg [a'6, a'7])), (54, (vI ((k : Nat) : Int)))], [], (vI (policyErr c.People.length c.Schedules.length b k)), [], []⟩, .a] ⟨StepOK.p rfl rfl rfl (OpOK.call rfl (by kernel_rfl) rfl (pol_check c b k (by omega) (by omega) hP hS hT) (by kernel_rfl)), trivial⟩ [(2, (.ref 1002 0)), (3, (.ref 1003 0)), (9, (vI (policyErr c.People.length c.Schedules.length b k))), (48, (vI ((b.Policies.length : Nat) : Int))), (49, (vI ((k : Nat) : Int)))] [(1002, a'8), (1003, a'9)] (by kernel_rfl) (by kernel_rfl) ?_
     refine AWp.s_reg hGn hGk (aa 2) (Man.aa _ _) [(2, (.ref 1002 0)), (3, (.ref 1003 0)), (9, (vI (policyErr c.People.length c.Schedules.length b k))), (48, (vI ((b.Policies.length : Nat) : Int))), (49, (vI ((k : Nat) : Int))), (57, (vB (decide ((policyErr c.People.length c.Schedules.length b k) ≠ (0 : Int)))))] [(1002, a'8), (1003, a'9)] (by kernel_rfl) (by kernel_rfl) ?_
     refine AWp.cond (decide ((policyErr c.People.length c.Schedules.length b k) ≠ (0 : Int))) rfl (fun hc10 => ?_) (fun hc10 => ?_)
     ·skip
      replace hc10 := of_decide_eq_true hc10
      refine AWp.s_reg hGn hGk (aa 2) (Man.aa _ _) [(4, (vI (policyErr c.People.length c.Schedules.length b k)))] [] (by kernel_rfl) (by kernel_rfl) ?_
      refine AWp.ret ?_
      refine blockQ_ret ?_
      refine nextQ_ret ?_
      refine nextQ_ret ?_
      refine blockQ_ret ?_
      refine nextQ_ret ?_
      refine fin_of (.inr rfl) (v := (vI (policyErr c.People.length c.Schedules.length b k))) (Res.tmp rfl rfl) (h' := []) rfl rfl ?_
      exact ⟨by rw [show bookErr c.People.length c.Schedules.length b = policyErr c.People.length c.Schedules.length b k from by unfold bookErr; rw [if_neg (by omega), show b.Teams.length = i by omega, if_pos hz]; exact firstN_err hy (by omega) rfl (by assumption)], rfl⟩
     ·skip
      replace hc10 := of_decide_eq_false hc10
      refine AWp.skip ?_
      refine blockQ_normal ?_
      refine nextQ_normal ?_
      refine AWp.reg' hGn hGk [.m (some 59) ⟨[(49, (vI ((k : Nat) : Int)))], [], (vI ((k + 1 : Nat) : Int)), [], []⟩, .a] ⟨StepOK.p rfl rfl rfl (OpOK.add rfl rfl rfl (by rw [IntWalk.i64_in _ ⟨by omega, by omega⟩]; omega)), trivial⟩ [(2, (.ref 1002 0)), (3, (.ref 1003 0)), (48, (vI ((b.Policies.length : Nat) : Int))), (49, (vI ((k + 1 : Nat) : Int)))] [(1002, a'8), (1003, a'9)] (by kernel_rfl) (by kernel_rfl) ?_
      refine nextQ_normal ⟨_, ?_, (k + 1), rfl, (by omega), (firstN_step hy (by first | assumption | omega)), rfl⟩
      · omega
    ·skip
     replace hc9 := of_decide_eq_false hc9
     refine AWp.weaken (mk [] []) (Weak.sub' hGk (by kernel_rfl)) ?_
     refine AWp.exit ?_
     refine nextQ_exit ?_
     refine nextQ_exit ?_
     refine blockQ_exit ?_
     refine nextQ_normal ?_
     refine AWp.s_reg hGn hGk (aa 1) (Man.aa _ _) [(4, (vI 0))] [] (by kernel_rfl) (by kernel_rfl) ?_
     refine AWp.ret ?_
     refine fin_of (.inr rfl) (v := (vI 0)) (Res.tmp rfl rfl) (h' := []) rfl rfl ?_
     exact ⟨by rw [show bookErr c.People.length c.Schedules.length b = 0 from by unfold bookErr; rw [if_neg (by omega), show b.Teams.length = i by omega, if_pos hz, show b.Policies.length = k by omega]; exact hy], rfl⟩
end Go.Proofs.YtimfbibaoppfcaaGreatDoor
