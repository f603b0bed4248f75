/-
  The walks of answers: codes, texts, what a text means. Printed by wip/gen/pol.py.
-/
import Derived.Test.YtimfbibaoppfcaaGreatDoorAnsPlain
import Derived.Test.YtimfbibaoppfcaaGreatDoorCfgWalk3
set_option maxRecDepth 100000
set_option linter.unusedSimpArgs false
set_option linter.unusedVariables false
namespace Go.Proofs.YtimfbibaoppfcaaGreatDoor
open Go AM
theorem res_pname (z : D.Person) :
    SpecIs Tryz.prog 81 [(.agg [(vS z.Name), (vI z.Zone), (.p (.sl false 2 (z.Quiet.map D.Window.cells))), (vI z.MaxWeek), (vI z.MinRest), (vB z.Consent)])] [] (vS z.Name) [] := by
 refine Spec.intro Tryz.func81 rfl (by kernel_rfl) ?_
 intro Γ hGn hGk
 replace hGn : Γ.n = 5 := hGn
 replace hGk : Γ.names = [] := hGk
 refine AWp.weaken (mk [(0, (.agg [(vS z.Name), (vI z.Zone), (.p (.sl false 2 (z.Quiet.map D.Window.cells))), (vI z.MaxWeek), (vI z.MinRest), (vB z.Consent)]))] []) (Weak.sub' hGk (by kernel_rfl)) ?_
 refine AWp.s_reg hGn hGk (aa 2) (Man.aa _ _) [(1, (.ref 1001 0))] [(1001, (.box [(vS z.Name), (vI z.Zone), (.p (.sl false 2 (z.Quiet.map D.Window.cells))), (vI z.MaxWeek), (vI z.MinRest), (vB z.Consent)]))] (by kernel_rfl) (by kernel_rfl) ?_
 refine AWp.s_reg hGn hGk (aa 3) (Man.aa _ _) [(2, (vS z.Name))] [] (by kernel_rfl) (by kernel_rfl) ?_
 refine AWp.ret ?_
 refine fin_of (.inr rfl) (v := (vS z.Name)) (Res.tmp rfl rfl) (h' := []) rfl rfl ?_
 exact ⟨rfl, rfl⟩
theorem res_pos1 (z : D.Person) (t : ByteArray) :
    SpecIs Tryz.prog 121 [(.agg [(vS z.Name), (vI z.Zone), (.p (.sl false 2 (z.Quiet.map D.Window.cells))), (vI z.MaxWeek), (vI z.MinRest), (vB z.Consent)]), (.ref 1005 0), (.ref 1004 0)] [(1005, (.box [(.p (.v (.func (.func 81) #[] #[])))])), (1004, (.box [(vS t)]))] (vB (decide (z.Name = t))) [(1005, (.box [(.p (.v (.func (.func 81) #[] #[])))])), (1004, (.box [(vS t)]))] := by
 refine Spec.intro Tryz.func121 rfl (by kernel_rfl) ?_
 intro Γ hGn hGk
 replace hGn : Γ.n = 10 := hGn
 replace hGk : Γ.names = [1005, 1004] := hGk
 let a'1 : AV := (.p (.sl false 2 (z.Quiet.map D.Window.cells)))
 let a'2 : AO := (.box [(.p (.v (.func (.func 81) #[] #[])))])
 refine AWp.weaken (mk [(0, (.agg [(vS z.Name), (vI z.Zone), a'1, (vI z.MaxWeek), (vI z.MinRest), (vB z.Consent)])), (1, (.ref 1005 0)), (2, (.ref 1004 0))] [(1005, a'2), (1004, (.box [(vS t)]))]) (Weak.sub' hGk (by kernel_rfl)) ?_
 refine AWp.s_reg hGn hGk (aa 2) (Man.aa _ _) [(1, (.ref 1005 0)), (2, (.ref 1004 0)), (3, (.ref 1003 0))] [(1005, a'2), (1004, (.box [(vS t)])), (1003, (.box [(vS z.Name), (vI z.Zone), a'1, (vI z.MaxWeek), (vI z.MinRest), (vB z.Consent)]))] (by kernel_rfl) (by kernel_rfl) ?_
 refine AWp.s_dreg hGn hGk (by kernel_rfl) [.a, .a, .m (some 7) ⟨[(5, (.p (.v (.func (.func 81) #[] #[])))), (6, (.agg [(vS z.Name), (vI z.Zone), a'1, (vI z.MaxWeek), (vI z.MinRest), (vB z.Consent)]))], [], (vS z.Name), [], []⟩, .a, .a, .a] ⟨StepOK.p rfl rfl rfl (OpOK.callFv rfl rfl (by kernel_rfl) rfl (res_pname z) (by kernel_rfl)), trivial⟩ [(4, (vB (decide (z.Name = t))))] [(1005, a'2), (1004, (.box [(vS t)]))] (by kernel_rfl) (by kernel_rfl) (by kernel_rfl) ?_
 refine AWp.ret ?_
 refine fin_of (.inr rfl) (v := (vB (decide (z.Name = t)))) (Res.tmp rfl rfl) (h' := [(1005, (.box [(.p (.v (.func (.func 81) #[] #[])))])), (1004, (.box [(vS t)]))]) rfl rfl ?_
 exact ⟨rfl, rfl⟩
theorem res_pidx (ps : List D.Person) (t : ByteArray) (hps : ps.length ≤ 1000000) :
    SpecIs Tryz.prog 120 [(.p (.sl false 6 (ps.map D.Person.cells))), (.clo (.func 121) [] [(.ref 1005 0), (.ref 1004 0)])] [(1005, (.box [(.p (.v (.func (.func 81) #[] #[])))])), (1004, (.box [(vS t)]))] (vI (pidx ps t)) [(1005, (.box [(.p (.v (.func (.func 81) #[] #[])))])), (1004, (.box [(vS t)]))] := by
 refine Spec.intro Tryz.func120 rfl (by kernel_rfl) ?_
 intro Γ hGn hGk
 replace hGn : Γ.n = 19 := hGn
 replace hGk : Γ.names = [1005, 1004] := hGk
 let a'1 : AV := (.p (.sl false 6 (ps.map D.Person.cells)))
 let a'2 : AV := (.clo (.func 121) [] [(.ref 1005 0), (.ref 1004 0)])
 let a'3 : AO := (.box [(.p (.v (.func (.func 81) #[] #[])))])
 refine AWp.weaken (mk [(0, a'1), (1, a'2)] [(1005, a'3), (1004, (.box [(vS t)]))]) (Weak.sub' hGk (by kernel_rfl)) ?_
 refine AWp.s_reg hGn hGk (aa 1) (Man.aa _ _) [(0, a'1), (1, a'2)] [(1005, a'3), (1004, (.box [(vS t)]))] (by kernel_rfl) (by kernel_rfl) ?_
 refine AWp.seq ?_
 refine AWp.s_reg hGn hGk [.a, .m (some 7) ⟨[(6, a'1)], [], (vI ((ps.length : Nat) : Int)), [], []⟩, .a] ⟨StepOK.p rfl rfl rfl (OpOK.lenP (e := 75) rfl rfl (by kernel_rfl) rfl (by rw [List.length_map])), trivial⟩ [(0, a'1), (1, a'2), (7, (vI ((ps.length : Nat) : Int))), (8, (vI 0))] [(1005, a'3), (1004, (.box [(vS t)]))] (by kernel_rfl) (by kernel_rfl) ?_
 refine AWp.block ?_
 refine AWp.loop (fun m s => ∃ i, s = (mk [(0, (.p (.sl false 6 (ps.map D.Person.cells)))), (1, (.clo (.func 121) [] [(.ref 1005 0), (.ref 1004 0)])), (7, (vI ((ps.length : Nat) : Int))), (8, (vI ((i : Nat) : Int)))] [(1005, (.box [(.p (.v (.func (.func 81) #[] #[])))])), (1004, (.box [(vS t)]))]) ∧ (i ≤ ps.length) ∧ (∀ j, j < i → (nth ps j).Name ≠ t) ∧ m = (ps.length - i))
  ⟨_, 0, rfl, (by omega), (by intro j hj; omega), rfl⟩ ?_
 rintro mm1 s ⟨i, rfl, hi, hw, hmm1⟩
 refine AWp.s_reg hGn hGk (aa 1) (Man.aa _ _) [(0, a'1), (1, a'2), (7, (vI ((ps.length : Nat) : Int))), (8, (vI ((i : Nat) : Int))), (9, (vB (decide (((i : Nat) : Int) < ((ps.length : Nat) : Int)))))] [(1005, a'3), (1004, (.box [(vS t)]))] (by kernel_rfl) (by kernel_rfl) ?_
 refine AWp.seq ?_
 refine AWp.cond (decide (((i : Nat) : Int) < ((ps.length : Nat) : Int))) rfl (fun hc2 => ?_) (fun hc2 => ?_)
 ·skip
  replace hc2 := of_decide_eq_true hc2
  refine AWp.skip ?_
  refine nextQ_normal ?_
  refine AWp.seq ?_
  refine AWp.block ?_
  refine AWp.s_reg hGn hGk (aa 2) (Man.aa _ _) [(0, a'1), (1, a'2), (5, (vI ((i : Nat) : Int))), (7, (vI ((ps.length : Nat) : Int))), (8, (vI ((i : Nat) : Int)))] [(1005, a'3), (1004, (.box [(vS t)]))] (by kernel_rfl) (by kernel_rfl) ?_
  refine AWp.s_reg hGn hGk [.a, .a, .a, .m (some 14) ⟨[(12, a'1), (13, (vI ((i : Nat) : Int)))], [], (.eptr [(pS ((nth ps i).Name)), (pI ((nth ps i).Zone)), (.sl false 2 (((nth ps i).Quiet).map D.Window.cells)), (pI ((nth ps i).MaxWeek)), (pI ((nth ps i).MinRest)), (pB ((nth ps i).Consent))]), [], []⟩, .a, .m (some 16) ⟨[(11, a'2), (15, (.agg [(vS ((nth ps i).Name)), (vI ((nth ps i).Zone)), (.p (.sl false 2 (((nth ps i).Quiet).map D.Window.cells))), (vI ((nth ps i).MaxWeek)), (vI ((nth ps i).MinRest)), (vB ((nth ps i).Consent))]))], [(1005, a'3), (1004, (.box [(vS t)]))], (vB (decide ((nth ps i).Name = t))), [(1005, a'3), (1004, (.box [(vS t)]))], []⟩] ⟨StepOK.p rfl rfl rfl (OpOK.indexP (e := 75) rfl (by kernel_rfl) (by kernel_rfl) rfl rfl rfl (map_nth (by omega))),
   StepOK.p rfl rfl rfl (OpOK.callClo rfl rfl (by kernel_rfl) rfl (res_pos1 (nth ps i) t) (by kernel_rfl)), trivial⟩ [(0, a'1), (1, a'2), (5, (vI ((i : Nat) : Int))), (7, (vI ((ps.length : Nat) : Int))), (8, (vI ((i : Nat) : Int))), (16, (vB (decide ((nth ps i).Name = t))))] [(1005, a'3), (1004, (.box [(vS t)]))] (by kernel_rfl) (by kernel_rfl) ?_
  refine AWp.cond (decide ((nth ps i).Name = t)) rfl (fun hc3 => ?_) (fun hc3 => ?_)
  ·skip
   replace hc3 := of_decide_eq_true hc3
   refine AWp.s_reg hGn hGk (aa 2) (Man.aa _ _) [(4, (vI ((i : Nat) : Int)))] [(1005, a'3), (1004, (.box [(vS t)]))] (by kernel_rfl) (by kernel_rfl) ?_
   refine AWp.ret ?_
   refine blockQ_ret ?_
   refine nextQ_ret ?_
   refine nextQ_ret ?_
   refine blockQ_ret ?_
   refine nextQ_ret ?_
   refine fin_of (.inr rfl) (v := (vI ((i : Nat) : Int))) (Res.tmp rfl rfl) (h' := [(1005, (.box [(.p (.v (.func (.func 81) #[] #[])))])), (1004, (.box [(vS t)]))]) rfl rfl ?_
   exact ⟨by rw [pidx_hit (by omega) hw (by assumption)], rfl⟩
  ·skip
   replace hc3 := of_decide_eq_false hc3
   refine AWp.skip ?_
   refine blockQ_normal ?_
   refine nextQ_normal ?_
   refine AWp.reg' hGn hGk [.m (some 18) ⟨[(8, (vI ((i : Nat) : Int)))], [], (vI ((i + 1 : Nat) : Int)), [], []⟩, .a] ⟨StepOK.p rfl rfl rfl (OpOK.add rfl rfl rfl (by rw [IntWalk.i64_in _ ⟨by omega, by omega⟩]; omega)), trivial⟩ [(0, a'1), (1, a'2), (7, (vI ((ps.length : Nat) : Int))), (8, (vI ((i + 1 : Nat) : Int)))] [(1005, a'3), (1004, (.box [(vS t)]))] (by kernel_rfl) (by kernel_rfl) ?_
   refine nextQ_normal ⟨_, ?_, (i + 1), rfl, (by omega), (fun j hj => by rcases Nat.lt_or_ge j i with h | h; exact hw j h; rw [show j = i from by omega]; assumption), rfl⟩
   · omega
 ·skip
  replace hc2 := of_decide_eq_false hc2
  refine AWp.weaken (mk [] [(1005, a'3), (1004, (.box [(vS t)]))]) (Weak.sub' hGk (by kernel_rfl)) ?_
  refine AWp.exit ?_
  refine nextQ_exit ?_
  refine nextQ_exit ?_
  refine blockQ_exit ?_
  refine nextQ_normal ?_
  refine AWp.s_reg hGn hGk (aa 1) (Man.aa _ _) [(4, (vI (-1)))] [(1005, a'3), (1004, (.box [(vS t)]))] (by kernel_rfl) (by kernel_rfl) ?_
  refine AWp.ret ?_
  refine fin_of (.inr rfl) (v := (vI (-1))) (Res.tmp rfl rfl) (h' := [(1005, (.box [(.p (.v (.func (.func 81) #[] #[])))])), (1004, (.box [(vS t)]))]) rfl rfl ?_
  exact ⟨by rw [pidx_none (by omega) hw], rfl⟩
theorem res_pos (ps : List D.Person) (t : ByteArray) (hps : ps.length ≤ 1000000) :
    SpecIs Tryz.prog 80 [(.p (.sl false 6 (ps.map D.Person.cells))), (vS t), (.p (.v (.func (.func 81) #[] #[])))] [] (.tup [(vI ((person ps t).1)), (vB ((person ps t).2))]) [] := by
 refine Spec.intro Tryz.func80 rfl (by kernel_rfl) ?_
 intro Γ hGn hGk
 replace hGn : Γ.n = 16 := hGn
 replace hGk : Γ.names = [] := hGk
 let a'1 : AV := (.p (.sl false 6 (ps.map D.Person.cells)))
 refine AWp.weaken (mk [(0, a'1), (1, (vS t)), (2, (.p (.v (.func (.func 81) #[] #[]))))] []) (Weak.sub' hGk (by kernel_rfl)) ?_
 let a'2 : AO := (.box [(.p (.v (.func (.func 81) #[] #[])))])
 refine AWp.s_reg hGn hGk (aa 4) (Man.aa _ _) [(0, a'1), (4, (.ref 1004 0)), (5, (.ref 1005 0))] [(1004, (.box [(vS t)])), (1005, a'2)] (by kernel_rfl) (by kernel_rfl) ?_
 refine AWp.s_reg hGn hGk [.a, .a, .m (some 11) ⟨[(9, a'1), (10, (.clo (.func 121) [] [(.ref 1005 0), (.ref 1004 0)]))], [(1005, a'2), (1004, (.box [(vS t)]))], (vI (pidx ps t)), [(1005, a'2), (1004, (.box [(vS t)]))], []⟩, .a] ⟨StepOK.p rfl rfl rfl (OpOK.call rfl (by kernel_rfl) rfl (res_pidx ps t hps) (by kernel_rfl)), trivial⟩ [(8, (vI (pidx ps t)))] [] (by kernel_rfl) (by kernel_rfl) ?_
 refine AWp.s_reg hGn hGk [.a, .m (some 13) ⟨[(12, (vI (pidx ps t)))], [], (vI ((person ps t).1)), [], []⟩, .a, .a, .a, .a] ⟨StepOK.p rfl rfl rfl (OpOK.maxI rfl rfl rfl (person_max ps t)), trivial⟩ [(6, (vI ((person ps t).1))), (7, (vB (decide ((0 : Int) ≤ (pidx ps t)))))] [] (by kernel_rfl) (by kernel_rfl) ?_
 refine AWp.ret ?_
 refine fin_of (.inr rfl) (v := (.tup [(vI ((person ps t).1)), (vB (decide ((0 : Int) ≤ (pidx ps t))))])) (Res.many (by kernel_rfl) (Res1s.cons (Res1.tmp rfl) (Res1s.cons (Res1.tmp rfl) Res1s.nil))) (h' := []) rfl rfl ?_
 exact ⟨by rw [person_is], rfl⟩
theorem res_Person (c : D.Config) (t : ByteArray) (hps : c.People.length ≤ 1000000) :
    SpecIs Tryz.prog 45 [(.agg [(.p (.sl false 3 (c.Zones.map D.Zone.cells))), (.p (.sl false 6 (c.People.map D.Person.cells))), (.p (.sl false 3 (c.Calendars.map D.Calendar.cells))), (.p (.sl false 3 (c.Schedules.map D.Schedule.cells)))]), (vS t)] [] (.tup [(vI ((person c.People t).1)), (vB ((person c.People t).2))]) [] := by
 refine Spec.intro Tryz.func45 rfl (by kernel_rfl) ?_
 intro Γ hGn hGk
 replace hGn : Γ.n = 12 := hGn
 replace hGk : Γ.names = [] := hGk
 let a'1 : AV := (.p (.sl false 6 (c.People.map D.Person.cells)))
 refine AWp.weaken (mk [(0, (.agg [(.p (.sl false 3 (c.Zones.map D.Zone.cells))), a'1, (.p (.sl false 3 (c.Calendars.map D.Calendar.cells))), (.p (.sl false 3 (c.Schedules.map D.Schedule.cells)))])), (1, (vS t))] []) (Weak.sub' hGk (by kernel_rfl)) ?_
 refine AWp.s_reg hGn hGk (aa 3) (Man.aa _ _) [(1, (vS t)), (2, (.ref 1002 0))] [(1002, (.box [(.p (.sl false 3 (c.Zones.map D.Zone.cells))), a'1, (.p (.sl false 3 (c.Calendars.map D.Calendar.cells))), (.p (.sl false 3 (c.Schedules.map D.Schedule.cells)))]))] (by kernel_rfl) (by kernel_rfl) ?_
 refine AWp.s_reg hGn hGk [.a, .a, .a, .m (some 9) ⟨[(7, a'1), (8, (vS t))], [], (.tup [(vI ((person c.People t).1)), (vB ((person c.People t).2))]), [], []⟩, .a, .a, .a, .a] ⟨StepOK.p rfl rfl rfl (OpOK.call rfl (by kernel_rfl) rfl (res_pos c.People t (by omega)) (by kernel_rfl)), trivial⟩ [(4, (vI ((person c.People t).1))), (5, (vB ((person c.People t).2)))] [] (by kernel_rfl) (by kernel_rfl) ?_
 refine AWp.ret ?_
 refine fin_of (.inr rfl) (v := (.tup [(vI ((person c.People t).1)), (vB ((person c.People t).2))])) (Res.many (by kernel_rfl) (Res1s.cons (Res1.tmp rfl) (Res1s.cons (Res1.tmp rfl) Res1s.nil))) (h' := []) rfl rfl ?_
 exact ⟨rfl, rfl⟩
end Go.Proofs.YtimfbibaoppfcaaGreatDoor
