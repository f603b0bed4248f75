/-
  The walks of the empty configuration. Printed by wip/gen/pol.py.
-/
import Derived.Test.YtnilcaihikfhbaaGreatCfgRef
set_option maxRecDepth 100000
set_option linter.unusedSimpArgs false
set_option linter.unusedVariables false
namespace Go.Proofs.YtnilcaihikfhbaaGreat
open Go AM
theorem nm0_z  :
    SpecIs Tryz.prog 41 [(.p (.sl false 3 (cfg0.Zones.map D.Zone.cells))), (.p (.v (.func (.func 42) #[] #[]))), (.p (.v (.func (.func 43) #[] #[])))] [] (vI 0) [] := by
 refine Spec.intro Tryz.func41 rfl (by kernel_rfl) ?_
 intro Γ hGn hGk
 replace hGn : Γ.n = 34 := hGn
 replace hGk : Γ.names = [] := hGk
 have hqZ : cfg0.Zones.length = 0 := rfl
 have hqP : cfg0.People.length = 0 := rfl
 have hqC : cfg0.Calendars.length = 0 := rfl
 have hqS : cfg0.Schedules.length = 0 := rfl
 let a'1 : AV := (.p (.sl false 3 (cfg0.Zones.map D.Zone.cells)))
 refine AWp.weaken (mk [(0, a'1), (1, (.p (.v (.func (.func 42) #[] #[])))), (2, (.p (.v (.func (.func 43) #[] #[]))))] []) (Weak.sub' hGk (by kernel_rfl)) ?_
 refine AWp.s_reg hGn hGk (aa 1) (Man.aa _ _) [(0, a'1), (1, (.p (.v (.func (.func 42) #[] #[])))), (2, (.p (.v (.func (.func 43) #[] #[]))))] [] (by kernel_rfl) (by kernel_rfl) ?_
 refine AWp.s_reg hGn hGk [.m (some 12) ⟨[], [], (.oref true 1012), [(1012, (.obj (smap [])))], [1012]⟩, .a] ⟨StepOK.p rfl rfl rfl (OpOK.makeMap rfl), trivial⟩ [(0, a'1), (1, (.p (.v (.func (.func 42) #[] #[])))), (2, (.p (.v (.func (.func 43) #[] #[])))), (7, (.oref true 1012))] [(1012, (.obj (smap [])))] (by kernel_rfl) (by kernel_rfl) ?_
 refine AWp.seq ?_
 refine AWp.s_reg hGn hGk [.a, .m (some 14) ⟨[(13, a'1)], [], (vI ((cfg0.Zones.length : Nat) : Int)), [], []⟩, .a] ⟨StepOK.p rfl rfl rfl (OpOK.lenP (e := 69) rfl rfl (by kernel_rfl) rfl (by rw [List.length_map])), trivial⟩ [(1, (.p (.v (.func (.func 42) #[] #[])))), (2, (.p (.v (.func (.func 43) #[] #[])))), (7, (.oref true 1012)), (13, a'1), (14, (vI ((cfg0.Zones.length : Nat) : Int))), (15, (vI 0))] [(1012, (.obj (smap [])))] (by kernel_rfl) (by kernel_rfl) ?_
 refine AWp.block ?_
 refine AWp.loop (fun m s =>  s = (mk [(1, (.p (.v (.func (.func 42) #[] #[])))), (2, (.p (.v (.func (.func 43) #[] #[])))), (7, (.oref true 1012)), (13, (.p (.sl false 3 (cfg0.Zones.map D.Zone.cells)))), (14, (vI ((cfg0.Zones.length : Nat) : Int))), (15, (vI 0))] [(1012, (.obj (smap [])))]) ∧ m = 0)
  ⟨_, rfl, rfl⟩ ?_
 rintro mm1 s ⟨rfl, hmm1⟩
 refine AWp.s_reg hGn hGk [.m (some 16) ⟨[(15, (vI 0)), (14, (vI ((cfg0.Zones.length : Nat) : Int)))], [], (vB false), [], []⟩] ⟨StepOK.p rfl rfl rfl (OpOK.lss rfl rfl rfl (decide_eq_false (by omega))), trivial⟩ [(1, (.p (.v (.func (.func 42) #[] #[])))), (2, (.p (.v (.func (.func 43) #[] #[])))), (7, (.oref true 1012)), (13, a'1), (14, (vI ((cfg0.Zones.length : Nat) : Int))), (15, (vI 0)), (16, (vB false))] [(1012, (.obj (smap [])))] (by kernel_rfl) (by kernel_rfl) ?_
 refine AWp.seq ?_
 refine AWp.cond_false rfl ?_
 refine AWp.weaken (mk [] []) (Weak.sub' hGk (by kernel_rfl)) ?_
 refine AWp.exit ?_
 refine nextQ_exit ?_
 refine nextQ_exit ?_
 refine blockQ_exit ?_
 refine nextQ_normal ?_
 refine AWp.s_reg hGn hGk (aa 1) (Man.aa _ _) [(6, (vI 0))] [] (by kernel_rfl) (by kernel_rfl) ?_
 refine AWp.ret ?_
 refine fin_of (.inr rfl) (v := (vI 0)) (Res.tmp rfl rfl) (h' := []) rfl rfl ?_
 exact ⟨rfl, rfl⟩

theorem nm0_c  :
    SpecIs Tryz.prog 46 [(.p (.sl false 3 (cfg0.Calendars.map D.Calendar.cells))), (.p (.v (.func (.func 47) #[] #[]))), (.clo (.func 48) [] [(.ref 1001 0)])] [(1001, (.box [(.p (.sl false 3 (cfg0.Zones.map D.Zone.cells))), (.p (.sl false 6 (cfg0.People.map D.Person.cells))), (.p (.sl false 3 (cfg0.Calendars.map D.Calendar.cells))), (.p (.sl false 3 (cfg0.Schedules.map D.Schedule.cells)))]))] (vI 0) [(1001, (.box [(.p (.sl false 3 (cfg0.Zones.map D.Zone.cells))), (.p (.sl false 6 (cfg0.People.map D.Person.cells))), (.p (.sl false 3 (cfg0.Calendars.map D.Calendar.cells))), (.p (.sl false 3 (cfg0.Schedules.map D.Schedule.cells)))]))] := by
 refine Spec.intro Tryz.func46 rfl (by kernel_rfl) ?_
 intro Γ hGn hGk
 replace hGn : Γ.n = 34 := hGn
 replace hGk : Γ.names = [1001] := hGk
 have hqZ : cfg0.Zones.length = 0 := rfl
 have hqP : cfg0.People.length = 0 := rfl
 have hqC : cfg0.Calendars.length = 0 := rfl
 have hqS : cfg0.Schedules.length = 0 := rfl
 let a'1 : AV := (.p (.sl false 3 (cfg0.Calendars.map D.Calendar.cells)))
 let a'2 : AV := (.clo (.func 48) [] [(.ref 1001 0)])
 let a'3 : AV := (.p (.sl false 3 (cfg0.Zones.map D.Zone.cells)))
 let a'4 : AV := (.p (.sl false 6 (cfg0.People.map D.Person.cells)))
 let a'5 : AV := (.p (.sl false 3 (cfg0.Schedules.map D.Schedule.cells)))
 let a'6 : AO := (.box [a'3, a'4, a'1, a'5])
 refine AWp.weaken (mk [(0, a'1), (1, (.p (.v (.func (.func 47) #[] #[])))), (2, a'2)] [(1001, a'6)]) (Weak.sub' hGk (by kernel_rfl)) ?_
 refine AWp.s_reg hGn hGk (aa 1) (Man.aa _ _) [(0, a'1), (1, (.p (.v (.func (.func 47) #[] #[])))), (2, a'2)] [(1001, a'6)] (by kernel_rfl) (by kernel_rfl) ?_
 refine AWp.s_reg hGn hGk [.m (some 12) ⟨[], [], (.oref true 1012), [(1012, (.obj (smap [])))], [1012]⟩, .a] ⟨StepOK.p rfl rfl rfl (OpOK.makeMap rfl), trivial⟩ [(0, a'1), (1, (.p (.v (.func (.func 47) #[] #[])))), (2, a'2), (7, (.oref true 1012))] [(1001, a'6), (1012, (.obj (smap [])))] (by kernel_rfl) (by kernel_rfl) ?_
 refine AWp.seq ?_
 refine AWp.s_reg hGn hGk [.a, .m (some 14) ⟨[(13, a'1)], [], (vI ((cfg0.Calendars.length : Nat) : Int)), [], []⟩, .a] ⟨StepOK.p rfl rfl rfl (OpOK.lenP (e := 112) rfl rfl (by kernel_rfl) rfl (by rw [List.length_map])), trivial⟩ [(1, (.p (.v (.func (.func 47) #[] #[])))), (2, a'2), (7, (.oref true 1012)), (13, a'1), (14, (vI ((cfg0.Calendars.length : Nat) : Int))), (15, (vI 0))] [(1001, a'6), (1012, (.obj (smap [])))] (by kernel_rfl) (by kernel_rfl) ?_
 refine AWp.block ?_
 refine AWp.loop (fun m s =>  s = (mk [(1, (.p (.v (.func (.func 47) #[] #[])))), (2, (.clo (.func 48) [] [(.ref 1001 0)])), (7, (.oref true 1012)), (13, (.p (.sl false 3 (cfg0.Calendars.map D.Calendar.cells)))), (14, (vI ((cfg0.Calendars.length : Nat) : Int))), (15, (vI 0))] [(1001, (.box [(.p (.sl false 3 (cfg0.Zones.map D.Zone.cells))), (.p (.sl false 6 (cfg0.People.map D.Person.cells))), (.p (.sl false 3 (cfg0.Calendars.map D.Calendar.cells))), (.p (.sl false 3 (cfg0.Schedules.map D.Schedule.cells)))])), (1012, (.obj (smap [])))]) ∧ m = 0)
  ⟨_, rfl, rfl⟩ ?_
 rintro mm1 s ⟨rfl, hmm1⟩
 refine AWp.s_reg hGn hGk [.m (some 16) ⟨[(15, (vI 0)), (14, (vI ((cfg0.Calendars.length : Nat) : Int)))], [], (vB false), [], []⟩] ⟨StepOK.p rfl rfl rfl (OpOK.lss rfl rfl rfl (decide_eq_false (by omega))), trivial⟩ [(1, (.p (.v (.func (.func 47) #[] #[])))), (2, a'2), (7, (.oref true 1012)), (13, a'1), (14, (vI ((cfg0.Calendars.length : Nat) : Int))), (15, (vI 0)), (16, (vB false))] [(1001, a'6), (1012, (.obj (smap [])))] (by kernel_rfl) (by kernel_rfl) ?_
 refine AWp.seq ?_
 refine AWp.cond_false rfl ?_
 refine AWp.weaken (mk [] [(1001, a'6)]) (Weak.sub' hGk (by kernel_rfl)) ?_
 refine AWp.exit ?_
 refine nextQ_exit ?_
 refine nextQ_exit ?_
 refine blockQ_exit ?_
 refine nextQ_normal ?_
 refine AWp.s_reg hGn hGk (aa 1) (Man.aa _ _) [(6, (vI 0))] [(1001, a'6)] (by kernel_rfl) (by kernel_rfl) ?_
 refine AWp.ret ?_
 refine fin_of (.inr rfl) (v := (vI 0)) (Res.tmp rfl rfl) (h' := [(1001, (.box [(.p (.sl false 3 (cfg0.Zones.map D.Zone.cells))), (.p (.sl false 6 (cfg0.People.map D.Person.cells))), (.p (.sl false 3 (cfg0.Calendars.map D.Calendar.cells))), (.p (.sl false 3 (cfg0.Schedules.map D.Schedule.cells)))]))]) rfl rfl ?_
 exact ⟨rfl, rfl⟩

theorem nm0_s  :
    SpecIs Tryz.prog 50 [(.p (.sl false 3 (cfg0.Schedules.map D.Schedule.cells))), (.p (.v (.func (.func 51) #[] #[]))), (.clo (.func 52) [] [(.ref 1001 0)])] [(1001, (.box [(.p (.sl false 3 (cfg0.Zones.map D.Zone.cells))), (.p (.sl false 6 (cfg0.People.map D.Person.cells))), (.p (.sl false 3 (cfg0.Calendars.map D.Calendar.cells))), (.p (.sl false 3 (cfg0.Schedules.map D.Schedule.cells)))]))] (vI 0) [(1001, (.box [(.p (.sl false 3 (cfg0.Zones.map D.Zone.cells))), (.p (.sl false 6 (cfg0.People.map D.Person.cells))), (.p (.sl false 3 (cfg0.Calendars.map D.Calendar.cells))), (.p (.sl false 3 (cfg0.Schedules.map D.Schedule.cells)))]))] := by
 refine Spec.intro Tryz.func50 rfl (by kernel_rfl) ?_
 intro Γ hGn hGk
 replace hGn : Γ.n = 34 := hGn
 replace hGk : Γ.names = [1001] := hGk
 have hqZ : cfg0.Zones.length = 0 := rfl
 have hqP : cfg0.People.length = 0 := rfl
 have hqC : cfg0.Calendars.length = 0 := rfl
 have hqS : cfg0.Schedules.length = 0 := rfl
 let a'1 : AV := (.p (.sl false 3 (cfg0.Schedules.map D.Schedule.cells)))
 let a'2 : AV := (.clo (.func 52) [] [(.ref 1001 0)])
 let a'3 : AV := (.p (.sl false 3 (cfg0.Zones.map D.Zone.cells)))
 let a'4 : AV := (.p (.sl false 6 (cfg0.People.map D.Person.cells)))
 let a'5 : AV := (.p (.sl false 3 (cfg0.Calendars.map D.Calendar.cells)))
 let a'6 : AO := (.box [a'3, a'4, a'5, a'1])
 refine AWp.weaken (mk [(0, a'1), (1, (.p (.v (.func (.func 51) #[] #[])))), (2, a'2)] [(1001, a'6)]) (Weak.sub' hGk (by kernel_rfl)) ?_
 refine AWp.s_reg hGn hGk (aa 1) (Man.aa _ _) [(0, a'1), (1, (.p (.v (.func (.func 51) #[] #[])))), (2, a'2)] [(1001, a'6)] (by kernel_rfl) (by kernel_rfl) ?_
 refine AWp.s_reg hGn hGk [.m (some 12) ⟨[], [], (.oref true 1012), [(1012, (.obj (smap [])))], [1012]⟩, .a] ⟨StepOK.p rfl rfl rfl (OpOK.makeMap rfl), trivial⟩ [(0, a'1), (1, (.p (.v (.func (.func 51) #[] #[])))), (2, a'2), (7, (.oref true 1012))] [(1001, a'6), (1012, (.obj (smap [])))] (by kernel_rfl) (by kernel_rfl) ?_
 refine AWp.seq ?_
 refine AWp.s_reg hGn hGk [.a, .m (some 14) ⟨[(13, a'1)], [], (vI ((cfg0.Schedules.length : Nat) : Int)), [], []⟩, .a] ⟨StepOK.p rfl rfl rfl (OpOK.lenP (e := 83) rfl rfl (by kernel_rfl) rfl (by rw [List.length_map])), trivial⟩ [(1, (.p (.v (.func (.func 51) #[] #[])))), (2, a'2), (7, (.oref true 1012)), (13, a'1), (14, (vI ((cfg0.Schedules.length : Nat) : Int))), (15, (vI 0))] [(1001, a'6), (1012, (.obj (smap [])))] (by kernel_rfl) (by kernel_rfl) ?_
 refine AWp.block ?_
 refine AWp.loop (fun m s =>  s = (mk [(1, (.p (.v (.func (.func 51) #[] #[])))), (2, (.clo (.func 52) [] [(.ref 1001 0)])), (7, (.oref true 1012)), (13, (.p (.sl false 3 (cfg0.Schedules.map D.Schedule.cells)))), (14, (vI ((cfg0.Schedules.length : Nat) : Int))), (15, (vI 0))] [(1001, (.box [(.p (.sl false 3 (cfg0.Zones.map D.Zone.cells))), (.p (.sl false 6 (cfg0.People.map D.Person.cells))), (.p (.sl false 3 (cfg0.Calendars.map D.Calendar.cells))), (.p (.sl false 3 (cfg0.Schedules.map D.Schedule.cells)))])), (1012, (.obj (smap [])))]) ∧ m = 0)
  ⟨_, rfl, rfl⟩ ?_
 rintro mm1 s ⟨rfl, hmm1⟩
 refine AWp.s_reg hGn hGk [.m (some 16) ⟨[(15, (vI 0)), (14, (vI ((cfg0.Schedules.length : Nat) : Int)))], [], (vB false), [], []⟩] ⟨StepOK.p rfl rfl rfl (OpOK.lss rfl rfl rfl (decide_eq_false (by omega))), trivial⟩ [(1, (.p (.v (.func (.func 51) #[] #[])))), (2, a'2), (7, (.oref true 1012)), (13, a'1), (14, (vI ((cfg0.Schedules.length : Nat) : Int))), (15, (vI 0)), (16, (vB false))] [(1001, a'6), (1012, (.obj (smap [])))] (by kernel_rfl) (by kernel_rfl) ?_
 refine AWp.seq ?_
 refine AWp.cond_false rfl ?_
 refine AWp.weaken (mk [] [(1001, a'6)]) (Weak.sub' hGk (by kernel_rfl)) ?_
 refine AWp.exit ?_
 refine nextQ_exit ?_
 refine nextQ_exit ?_
 refine blockQ_exit ?_
 refine nextQ_normal ?_
 refine AWp.s_reg hGn hGk (aa 1) (Man.aa _ _) [(6, (vI 0))] [(1001, a'6)] (by kernel_rfl) (by kernel_rfl) ?_
 refine AWp.ret ?_
 refine fin_of (.inr rfl) (v := (vI 0)) (Res.tmp rfl rfl) (h' := [(1001, (.box [(.p (.sl false 3 (cfg0.Zones.map D.Zone.cells))), (.p (.sl false 6 (cfg0.People.map D.Person.cells))), (.p (.sl false 3 (cfg0.Calendars.map D.Calendar.cells))), (.p (.sl false 3 (cfg0.Schedules.map D.Schedule.cells)))]))]) rfl rfl ?_
 exact ⟨rfl, rfl⟩

theorem res0_Check  :
    SpecIs Tryz.prog 25 [(.agg [(.p (.sl false 3 (cfg0.Zones.map D.Zone.cells))), (.p (.sl false 6 (cfg0.People.map D.Person.cells))), (.p (.sl false 3 (cfg0.Calendars.map D.Calendar.cells))), (.p (.sl false 3 (cfg0.Schedules.map D.Schedule.cells)))])] [] (vI 0) [] := by
 refine Spec.intro Tryz.func25 rfl (by kernel_rfl) ?_
 intro Γ hGn hGk
 replace hGn : Γ.n = 72 := hGn
 replace hGk : Γ.names = [] := hGk
 have hqZ : cfg0.Zones.length = 0 := rfl
 have hqP : cfg0.People.length = 0 := rfl
 have hqC : cfg0.Calendars.length = 0 := rfl
 have hqS : cfg0.Schedules.length = 0 := rfl
 let a'1 : AV := (.p (.sl false 3 (cfg0.Zones.map D.Zone.cells)))
 let a'2 : AV := (.p (.sl false 6 (cfg0.People.map D.Person.cells)))
 let a'3 : AV := (.p (.sl false 3 (cfg0.Calendars.map D.Calendar.cells)))
 let a'4 : AV := (.p (.sl false 3 (cfg0.Schedules.map D.Schedule.cells)))
 refine AWp.weaken (mk [(0, (.agg [a'1, a'2, a'3, a'4]))] []) (Weak.sub' hGk (by kernel_rfl)) ?_
 let a'5 : AO := (.box [a'1, a'2, a'3, a'4])
 refine AWp.s_reg hGn hGk (aa 2) (Man.aa _ _) [(1, (.ref 1001 0))] [(1001, a'5)] (by kernel_rfl) (by kernel_rfl) ?_
 refine AWp.seq ?_
 refine AWp.s_reg hGn hGk [.a, .a, .m (some 11) ⟨[(10, a'1)], [], (vI ((cfg0.Zones.length : Nat) : Int)), [], []⟩, .m (some 12) ⟨[(11, (vI ((cfg0.Zones.length : Nat) : Int)))], [], (vB false), [], []⟩, .a, .a, .a, .m (some 16) ⟨[(15, a'2), (13, (vB false))], [], (vI ((cfg0.People.length : Nat) : Int)), [], []⟩, .m (some 17) ⟨[(16, (vI ((cfg0.People.length : Nat) : Int))), (13, (vB false))], [], (vB false), [], []⟩, .a, .a, .a, .a, .m (some 22) ⟨[(21, a'3), (19, (vB false))], [], (vI ((cfg0.Calendars.length : Nat) : Int)), [], []⟩, .m (some 23) ⟨[(22, (vI ((cfg0.Calendars.length : Nat) : Int))), (19, (vB false))], [], (vB false), [], []⟩, .a, .a, .a, .a, .m (some 28) ⟨[(27, a'4), (25, (vB false))], [], (vI ((cfg0.Schedules.length : Nat) : Int)), [], []⟩, .m (some 29) ⟨[(28, (vI ((cfg0.Schedules.length : Nat) : Int))), (25, (vB false))], [], (vB false), [], []⟩, .a] ⟨StepOK.p rfl rfl rfl (OpOK.lenP (e := 69) rfl rfl (by kernel_rfl) rfl (by rw [List.length_map])),
  StepOK.p rfl rfl rfl (OpOK.gtr rfl rfl rfl (decide_eq_false (by omega))),
  StepOK.g rfl rfl rfl rfl rfl (by simp) (OpOK.lenP (e := 73) rfl rfl (by kernel_rfl) rfl (by rw [List.length_map])),
  StepOK.g rfl rfl rfl rfl rfl (by simp) (OpOK.gtr rfl rfl rfl (decide_eq_false (by omega))),
  StepOK.g rfl rfl rfl rfl rfl (by simp) (OpOK.lenP (e := 112) rfl rfl (by kernel_rfl) rfl (by rw [List.length_map])),
  StepOK.g rfl rfl rfl rfl rfl (by simp) (OpOK.gtr rfl rfl rfl (decide_eq_false (by omega))),
  StepOK.g rfl rfl rfl rfl rfl (by simp) (OpOK.lenP (e := 83) rfl rfl (by kernel_rfl) rfl (by rw [List.length_map])),
  StepOK.g rfl rfl rfl rfl rfl (by simp) (OpOK.gtr rfl rfl rfl (decide_eq_false (by omega))), trivial⟩ [(1, (.ref 1001 0)), (30, (vB false))] [(1001, a'5)] (by kernel_rfl) (by kernel_rfl) ?_
 refine AWp.cond_false rfl ?_
 refine AWp.skip ?_
 refine nextQ_normal ?_
 refine AWp.seq ?_
 refine AWp.s_reg hGn hGk [.a, .a, .m (some 33) ⟨[(32, a'1)], [], (vI 0), [], []⟩, .a] ⟨StepOK.p rfl rfl rfl (OpOK.call rfl (by kernel_rfl) rfl nm0_z (by kernel_rfl)), trivial⟩ [(1, (.ref 1001 0)), (3, (vI 0))] [(1001, a'5)] (by kernel_rfl) (by kernel_rfl) ?_
 refine AWp.s_reg hGn hGk (aa 2) (Man.aa _ _) [(1, (.ref 1001 0)), (3, (vI 0)), (35, (vB false))] [(1001, a'5)] (by kernel_rfl) (by kernel_rfl) ?_
 refine AWp.cond_false rfl ?_
 refine AWp.skip ?_
 refine nextQ_normal ?_
 refine AWp.s_reg hGn hGk [.m (some 37) ⟨[], [], (.oref true 1037), [(1037, (.obj (smap [])))], [1037]⟩, .a] ⟨StepOK.p rfl rfl rfl (OpOK.makeMap rfl), trivial⟩ [(1, (.ref 1001 0)), (4, (.oref true 1037))] [(1001, a'5), (1037, (.obj (smap [])))] (by kernel_rfl) (by kernel_rfl) ?_
 refine AWp.seq ?_
 refine AWp.s_reg hGn hGk [.a, .a, .m (some 40) ⟨[(39, a'2)], [], (vI ((cfg0.People.length : Nat) : Int)), [], []⟩, .a] ⟨StepOK.p rfl rfl rfl (OpOK.lenP (e := 73) rfl rfl (by kernel_rfl) rfl (by rw [List.length_map])), trivial⟩ [(1, (.ref 1001 0)), (4, (.oref true 1037)), (39, a'2), (40, (vI ((cfg0.People.length : Nat) : Int))), (41, (vI 0))] [(1001, a'5), (1037, (.obj (smap [])))] (by kernel_rfl) (by kernel_rfl) ?_
 refine AWp.block ?_
 refine AWp.loop (fun m s =>  s = (mk [(1, (.ref 1001 0)), (4, (.oref true 1037)), (39, (.p (.sl false 6 (cfg0.People.map D.Person.cells)))), (40, (vI ((cfg0.People.length : Nat) : Int))), (41, (vI 0))] [(1001, (.box [(.p (.sl false 3 (cfg0.Zones.map D.Zone.cells))), (.p (.sl false 6 (cfg0.People.map D.Person.cells))), (.p (.sl false 3 (cfg0.Calendars.map D.Calendar.cells))), (.p (.sl false 3 (cfg0.Schedules.map D.Schedule.cells)))])), (1037, (.obj (smap [])))]) ∧ m = 0)
  ⟨_, rfl, rfl⟩ ?_
 rintro mm1 s ⟨rfl, hmm1⟩
 refine AWp.s_reg hGn hGk [.m (some 42) ⟨[(41, (vI 0)), (40, (vI ((cfg0.People.length : Nat) : Int)))], [], (vB false), [], []⟩] ⟨StepOK.p rfl rfl rfl (OpOK.lss rfl rfl rfl (decide_eq_false (by omega))), trivial⟩ [(1, (.ref 1001 0)), (4, (.oref true 1037)), (39, a'2), (40, (vI ((cfg0.People.length : Nat) : Int))), (41, (vI 0)), (42, (vB false))] [(1001, a'5), (1037, (.obj (smap [])))] (by kernel_rfl) (by kernel_rfl) ?_
 refine AWp.seq ?_
 refine AWp.cond_false rfl ?_
 refine AWp.weaken (mk [(1, (.ref 1001 0))] [(1001, a'5)]) (Weak.sub' hGk (by kernel_rfl)) ?_
 refine AWp.exit ?_
 refine nextQ_exit ?_
 refine nextQ_exit ?_
 refine blockQ_exit ?_
 refine nextQ_normal ?_
 refine AWp.seq ?_
 refine AWp.s_reg hGn hGk [.a, .a, .a, .m (some 64) ⟨[(62, a'3), (63, (.clo (.func 48) [] [(.ref 1001 0)]))], [(1001, a'5)], (vI 0), [(1001, a'5)], []⟩, .a] ⟨StepOK.p rfl rfl rfl (OpOK.call rfl (by kernel_rfl) rfl nm0_c (by kernel_rfl)), trivial⟩ [(1, (.ref 1001 0)), (8, (vI 0))] [(1001, a'5)] (by kernel_rfl) (by kernel_rfl) ?_
 refine AWp.s_reg hGn hGk (aa 2) (Man.aa _ _) [(1, (.ref 1001 0)), (8, (vI 0)), (66, (vB false))] [(1001, a'5)] (by kernel_rfl) (by kernel_rfl) ?_
 refine AWp.cond_false rfl ?_
 refine AWp.skip ?_
 refine nextQ_normal ?_
 refine AWp.s_reg hGn hGk [.a, .a, .a, .m (some 71) ⟨[(69, a'4), (70, (.clo (.func 52) [] [(.ref 1001 0)]))], [(1001, a'5)], (vI 0), [(1001, a'5)], []⟩, .a] ⟨StepOK.p rfl rfl rfl (OpOK.call rfl (by kernel_rfl) rfl nm0_s (by kernel_rfl)), trivial⟩ [(2, (vI 0))] [] (by kernel_rfl) (by kernel_rfl) ?_
 refine AWp.ret ?_
 refine fin_of (.inr rfl) (v := (vI 0)) (Res.tmp rfl rfl) (h' := []) rfl rfl ?_
 exact ⟨rfl, rfl⟩

theorem r080_zones  :
    SpecIs Tryz.prog 58 [(.agg [(.p (.sl false 3 (cfg0.Zones.map D.Zone.cells))), (.p (.sl false 6 (cfg0.People.map D.Person.cells))), (.p (.sl false 3 (cfg0.Calendars.map D.Calendar.cells))), (.p (.sl false 3 (cfg0.Schedules.map D.Schedule.cells)))])] [] (vI 0) [] := by
 refine Spec.intro Tryz.func58 rfl (by kernel_rfl) ?_
 intro Γ hGn hGk
 replace hGn : Γ.n = 44 := hGn
 replace hGk : Γ.names = [] := hGk
 have hqZ : cfg0.Zones.length = 0 := rfl
 have hqP : cfg0.People.length = 0 := rfl
 have hqC : cfg0.Calendars.length = 0 := rfl
 have hqS : cfg0.Schedules.length = 0 := rfl
 let a'1 : AV := (.p (.sl false 3 (cfg0.Zones.map D.Zone.cells)))
 let a'2 : AV := (.p (.sl false 6 (cfg0.People.map D.Person.cells)))
 let a'3 : AV := (.p (.sl false 3 (cfg0.Calendars.map D.Calendar.cells)))
 let a'4 : AV := (.p (.sl false 3 (cfg0.Schedules.map D.Schedule.cells)))
 refine AWp.weaken (mk [(0, (.agg [a'1, a'2, a'3, a'4]))] []) (Weak.sub' hGk (by kernel_rfl)) ?_
 let a'5 : AO := (.box [a'1, a'2, a'3, a'4])
 refine AWp.s_reg hGn hGk (aa 2) (Man.aa _ _) [(1, (.ref 1001 0))] [(1001, a'5)] (by kernel_rfl) (by kernel_rfl) ?_
 refine AWp.s_reg hGn hGk (aa 1) (Man.aa _ _) [(1, (.ref 1001 0)), (3, (.p (.sl true 0 [])))] [(1001, a'5)] (by kernel_rfl) (by kernel_rfl) ?_
 refine AWp.seq ?_
 refine AWp.s_reg hGn hGk (aa 1) (Man.aa _ _) [(1, (.ref 1001 0)), (3, (.p (.sl true 0 []))), (4, (vI 0))] [(1001, a'5)] (by kernel_rfl) (by kernel_rfl) ?_
 refine AWp.block ?_
 refine AWp.loop (fun m s =>  s = (mk [(1, (.ref 1001 0)), (3, (.p (.sl true 0 []))), (4, (vI 0))] [(1001, (.box [(.p (.sl false 3 (cfg0.Zones.map D.Zone.cells))), (.p (.sl false 6 (cfg0.People.map D.Person.cells))), (.p (.sl false 3 (cfg0.Calendars.map D.Calendar.cells))), (.p (.sl false 3 (cfg0.Schedules.map D.Schedule.cells)))]))]) ∧ m = 0)
  ⟨_, rfl, rfl⟩ ?_
 rintro mm1 s ⟨rfl, hmm1⟩
 refine AWp.seq ?_
 refine AWp.s_reg hGn hGk [.a, .a, .a, .m (some 9) ⟨[(8, a'1)], [], (vI ((cfg0.Zones.length : Nat) : Int)), [], []⟩, .m (some 10) ⟨[(6, (vI 0)), (9, (vI ((cfg0.Zones.length : Nat) : Int)))], [], (vB false), [], []⟩] ⟨StepOK.p rfl rfl rfl (OpOK.lenP (e := 69) rfl rfl (by kernel_rfl) rfl (by rw [List.length_map])),
  StepOK.p rfl rfl rfl (OpOK.lss rfl rfl rfl (decide_eq_false (by omega))), trivial⟩ [(1, (.ref 1001 0)), (3, (.p (.sl true 0 []))), (4, (vI 0)), (10, (vB false))] [(1001, a'5)] (by kernel_rfl) (by kernel_rfl) ?_
 refine AWp.cond_false rfl ?_
 refine AWp.weaken (mk [] []) (Weak.sub' hGk (by kernel_rfl)) ?_
 refine AWp.exit ?_
 refine nextQ_exit ?_
 refine nextQ_exit ?_
 refine blockQ_exit ?_
 refine nextQ_normal ?_
 refine AWp.s_reg hGn hGk (aa 1) (Man.aa _ _) [(2, (vI 0))] [] (by kernel_rfl) (by kernel_rfl) ?_
 refine AWp.ret ?_
 refine fin_of (.inr rfl) (v := (vI 0)) (Res.tmp rfl rfl) (h' := []) rfl rfl ?_
 exact ⟨rfl, rfl⟩

theorem r080_people  :
    SpecIs Tryz.prog 59 [(.agg [(.p (.sl false 3 (cfg0.Zones.map D.Zone.cells))), (.p (.sl false 6 (cfg0.People.map D.Person.cells))), (.p (.sl false 3 (cfg0.Calendars.map D.Calendar.cells))), (.p (.sl false 3 (cfg0.Schedules.map D.Schedule.cells)))])] [] (vI 0) [] := by
 refine Spec.intro Tryz.func59 rfl (by kernel_rfl) ?_
 intro Γ hGn hGk
 replace hGn : Γ.n = 58 := hGn
 replace hGk : Γ.names = [] := hGk
 have hqZ : cfg0.Zones.length = 0 := rfl
 have hqP : cfg0.People.length = 0 := rfl
 have hqC : cfg0.Calendars.length = 0 := rfl
 have hqS : cfg0.Schedules.length = 0 := rfl
 let a'1 : AV := (.p (.sl false 3 (cfg0.Zones.map D.Zone.cells)))
 let a'2 : AV := (.p (.sl false 6 (cfg0.People.map D.Person.cells)))
 let a'3 : AV := (.p (.sl false 3 (cfg0.Calendars.map D.Calendar.cells)))
 let a'4 : AV := (.p (.sl false 3 (cfg0.Schedules.map D.Schedule.cells)))
 refine AWp.weaken (mk [(0, (.agg [a'1, a'2, a'3, a'4]))] []) (Weak.sub' hGk (by kernel_rfl)) ?_
 let a'5 : AO := (.box [a'1, a'2, a'3, a'4])
 refine AWp.s_reg hGn hGk (aa 2) (Man.aa _ _) [(1, (.ref 1001 0))] [(1001, a'5)] (by kernel_rfl) (by kernel_rfl) ?_
 refine AWp.s_reg hGn hGk (aa 1) (Man.aa _ _) [(1, (.ref 1001 0)), (3, (.p (.sl true 0 [])))] [(1001, a'5)] (by kernel_rfl) (by kernel_rfl) ?_
 refine AWp.seq ?_
 refine AWp.s_reg hGn hGk (aa 1) (Man.aa _ _) [(1, (.ref 1001 0)), (3, (.p (.sl true 0 []))), (4, (vI 0))] [(1001, a'5)] (by kernel_rfl) (by kernel_rfl) ?_
 refine AWp.block ?_
 refine AWp.loop (fun m s =>  s = (mk [(1, (.ref 1001 0)), (3, (.p (.sl true 0 []))), (4, (vI 0))] [(1001, (.box [(.p (.sl false 3 (cfg0.Zones.map D.Zone.cells))), (.p (.sl false 6 (cfg0.People.map D.Person.cells))), (.p (.sl false 3 (cfg0.Calendars.map D.Calendar.cells))), (.p (.sl false 3 (cfg0.Schedules.map D.Schedule.cells)))]))]) ∧ m = 0)
  ⟨_, rfl, rfl⟩ ?_
 rintro mm1 s ⟨rfl, hmm1⟩
 refine AWp.seq ?_
 refine AWp.s_reg hGn hGk [.a, .a, .a, .m (some 10) ⟨[(9, a'2)], [], (vI ((cfg0.People.length : Nat) : Int)), [], []⟩, .m (some 11) ⟨[(7, (vI 0)), (10, (vI ((cfg0.People.length : Nat) : Int)))], [], (vB false), [], []⟩] ⟨StepOK.p rfl rfl rfl (OpOK.lenP (e := 73) rfl rfl (by kernel_rfl) rfl (by rw [List.length_map])),
  StepOK.p rfl rfl rfl (OpOK.lss rfl rfl rfl (decide_eq_false (by omega))), trivial⟩ [(1, (.ref 1001 0)), (3, (.p (.sl true 0 []))), (4, (vI 0)), (11, (vB false))] [(1001, a'5)] (by kernel_rfl) (by kernel_rfl) ?_
 refine AWp.cond_false rfl ?_
 refine AWp.weaken (mk [] []) (Weak.sub' hGk (by kernel_rfl)) ?_
 refine AWp.exit ?_
 refine nextQ_exit ?_
 refine nextQ_exit ?_
 refine blockQ_exit ?_
 refine nextQ_normal ?_
 refine AWp.s_reg hGn hGk (aa 1) (Man.aa _ _) [(2, (vI 0))] [] (by kernel_rfl) (by kernel_rfl) ?_
 refine AWp.ret ?_
 refine fin_of (.inr rfl) (v := (vI 0)) (Res.tmp rfl rfl) (h' := []) rfl rfl ?_
 exact ⟨rfl, rfl⟩

theorem r080_calendars  :
    SpecIs Tryz.prog 60 [(.agg [(.p (.sl false 3 (cfg0.Zones.map D.Zone.cells))), (.p (.sl false 6 (cfg0.People.map D.Person.cells))), (.p (.sl false 3 (cfg0.Calendars.map D.Calendar.cells))), (.p (.sl false 3 (cfg0.Schedules.map D.Schedule.cells)))])] [] (vI 0) [] := by
 refine Spec.intro Tryz.func60 rfl (by kernel_rfl) ?_
 intro Γ hGn hGk
 replace hGn : Γ.n = 78 := hGn
 replace hGk : Γ.names = [] := hGk
 have hqZ : cfg0.Zones.length = 0 := rfl
 have hqP : cfg0.People.length = 0 := rfl
 have hqC : cfg0.Calendars.length = 0 := rfl
 have hqS : cfg0.Schedules.length = 0 := rfl
 let a'1 : AV := (.p (.sl false 3 (cfg0.Zones.map D.Zone.cells)))
 let a'2 : AV := (.p (.sl false 6 (cfg0.People.map D.Person.cells)))
 let a'3 : AV := (.p (.sl false 3 (cfg0.Calendars.map D.Calendar.cells)))
 let a'4 : AV := (.p (.sl false 3 (cfg0.Schedules.map D.Schedule.cells)))
 refine AWp.weaken (mk [(0, (.agg [a'1, a'2, a'3, a'4]))] []) (Weak.sub' hGk (by kernel_rfl)) ?_
 let a'5 : AO := (.box [a'1, a'2, a'3, a'4])
 refine AWp.s_reg hGn hGk (aa 2) (Man.aa _ _) [(1, (.ref 1001 0))] [(1001, a'5)] (by kernel_rfl) (by kernel_rfl) ?_
 refine AWp.s_reg hGn hGk (aa 1) (Man.aa _ _) [(1, (.ref 1001 0)), (3, (.p (.sl true 0 [])))] [(1001, a'5)] (by kernel_rfl) (by kernel_rfl) ?_
 refine AWp.seq ?_
 refine AWp.s_reg hGn hGk (aa 1) (Man.aa _ _) [(1, (.ref 1001 0)), (3, (.p (.sl true 0 []))), (4, (vI 0))] [(1001, a'5)] (by kernel_rfl) (by kernel_rfl) ?_
 refine AWp.block ?_
 refine AWp.loop (fun m s =>  s = (mk [(1, (.ref 1001 0)), (3, (.p (.sl true 0 []))), (4, (vI 0))] [(1001, (.box [(.p (.sl false 3 (cfg0.Zones.map D.Zone.cells))), (.p (.sl false 6 (cfg0.People.map D.Person.cells))), (.p (.sl false 3 (cfg0.Calendars.map D.Calendar.cells))), (.p (.sl false 3 (cfg0.Schedules.map D.Schedule.cells)))]))]) ∧ m = 0)
  ⟨_, rfl, rfl⟩ ?_
 rintro mm1 s ⟨rfl, hmm1⟩
 refine AWp.seq ?_
 refine AWp.s_reg hGn hGk [.a, .a, .a, .m (some 12) ⟨[(11, a'3)], [], (vI ((cfg0.Calendars.length : Nat) : Int)), [], []⟩, .m (some 13) ⟨[(9, (vI 0)), (12, (vI ((cfg0.Calendars.length : Nat) : Int)))], [], (vB false), [], []⟩] ⟨StepOK.p rfl rfl rfl (OpOK.lenP (e := 112) rfl rfl (by kernel_rfl) rfl (by rw [List.length_map])),
  StepOK.p rfl rfl rfl (OpOK.lss rfl rfl rfl (decide_eq_false (by omega))), trivial⟩ [(1, (.ref 1001 0)), (3, (.p (.sl true 0 []))), (4, (vI 0)), (13, (vB false))] [(1001, a'5)] (by kernel_rfl) (by kernel_rfl) ?_
 refine AWp.cond_false rfl ?_
 refine AWp.weaken (mk [] []) (Weak.sub' hGk (by kernel_rfl)) ?_
 refine AWp.exit ?_
 refine nextQ_exit ?_
 refine nextQ_exit ?_
 refine blockQ_exit ?_
 refine nextQ_normal ?_
 refine AWp.s_reg hGn hGk (aa 1) (Man.aa _ _) [(2, (vI 0))] [] (by kernel_rfl) (by kernel_rfl) ?_
 refine AWp.ret ?_
 refine fin_of (.inr rfl) (v := (vI 0)) (Res.tmp rfl rfl) (h' := []) rfl rfl ?_
 exact ⟨rfl, rfl⟩

theorem r080_schedules  :
    SpecIs Tryz.prog 61 [(.agg [(.p (.sl false 3 (cfg0.Zones.map D.Zone.cells))), (.p (.sl false 6 (cfg0.People.map D.Person.cells))), (.p (.sl false 3 (cfg0.Calendars.map D.Calendar.cells))), (.p (.sl false 3 (cfg0.Schedules.map D.Schedule.cells)))])] [] (vI 0) [] := by
 refine Spec.intro Tryz.func61 rfl (by kernel_rfl) ?_
 intro Γ hGn hGk
 replace hGn : Γ.n = 95 := hGn
 replace hGk : Γ.names = [] := hGk
 have hqZ : cfg0.Zones.length = 0 := rfl
 have hqP : cfg0.People.length = 0 := rfl
 have hqC : cfg0.Calendars.length = 0 := rfl
 have hqS : cfg0.Schedules.length = 0 := rfl
 let a'1 : AV := (.p (.sl false 3 (cfg0.Zones.map D.Zone.cells)))
 let a'2 : AV := (.p (.sl false 6 (cfg0.People.map D.Person.cells)))
 let a'3 : AV := (.p (.sl false 3 (cfg0.Calendars.map D.Calendar.cells)))
 let a'4 : AV := (.p (.sl false 3 (cfg0.Schedules.map D.Schedule.cells)))
 refine AWp.weaken (mk [(0, (.agg [a'1, a'2, a'3, a'4]))] []) (Weak.sub' hGk (by kernel_rfl)) ?_
 let a'5 : AO := (.box [a'1, a'2, a'3, a'4])
 refine AWp.s_reg hGn hGk (aa 2) (Man.aa _ _) [(1, (.ref 1001 0))] [(1001, a'5)] (by kernel_rfl) (by kernel_rfl) ?_
 refine AWp.s_reg hGn hGk (aa 1) (Man.aa _ _) [(1, (.ref 1001 0)), (3, (.p (.sl true 0 [])))] [(1001, a'5)] (by kernel_rfl) (by kernel_rfl) ?_
 refine AWp.seq ?_
 refine AWp.s_reg hGn hGk (aa 1) (Man.aa _ _) [(1, (.ref 1001 0)), (3, (.p (.sl true 0 []))), (4, (vI 0))] [(1001, a'5)] (by kernel_rfl) (by kernel_rfl) ?_
 refine AWp.block ?_
 refine AWp.loop (fun m s =>  s = (mk [(1, (.ref 1001 0)), (3, (.p (.sl true 0 []))), (4, (vI 0))] [(1001, (.box [(.p (.sl false 3 (cfg0.Zones.map D.Zone.cells))), (.p (.sl false 6 (cfg0.People.map D.Person.cells))), (.p (.sl false 3 (cfg0.Calendars.map D.Calendar.cells))), (.p (.sl false 3 (cfg0.Schedules.map D.Schedule.cells)))]))]) ∧ m = 0)
  ⟨_, rfl, rfl⟩ ?_
 rintro mm1 s ⟨rfl, hmm1⟩
 refine AWp.seq ?_
 refine AWp.s_reg hGn hGk [.a, .a, .a, .m (some 16) ⟨[(15, a'4)], [], (vI ((cfg0.Schedules.length : Nat) : Int)), [], []⟩, .m (some 17) ⟨[(13, (vI 0)), (16, (vI ((cfg0.Schedules.length : Nat) : Int)))], [], (vB false), [], []⟩] ⟨StepOK.p rfl rfl rfl (OpOK.lenP (e := 83) rfl rfl (by kernel_rfl) rfl (by rw [List.length_map])),
  StepOK.p rfl rfl rfl (OpOK.lss rfl rfl rfl (decide_eq_false (by omega))), trivial⟩ [(1, (.ref 1001 0)), (3, (.p (.sl true 0 []))), (4, (vI 0)), (17, (vB false))] [(1001, a'5)] (by kernel_rfl) (by kernel_rfl) ?_
 refine AWp.cond_false rfl ?_
 refine AWp.weaken (mk [] []) (Weak.sub' hGk (by kernel_rfl)) ?_
 refine AWp.exit ?_
 refine nextQ_exit ?_
 refine nextQ_exit ?_
 refine blockQ_exit ?_
 refine nextQ_normal ?_
 refine AWp.s_reg hGn hGk (aa 1) (Man.aa _ _) [(2, (vI 0))] [] (by kernel_rfl) (by kernel_rfl) ?_
 refine AWp.ret ?_
 refine fin_of (.inr rfl) (v := (vI 0)) (Res.tmp rfl rfl) (h' := []) rfl rfl ?_
 exact ⟨rfl, rfl⟩

theorem r080_Check  :
    SpecIs Tryz.prog 31 [(.agg [(.p (.sl false 3 (cfg0.Zones.map D.Zone.cells))), (.p (.sl false 6 (cfg0.People.map D.Person.cells))), (.p (.sl false 3 (cfg0.Calendars.map D.Calendar.cells))), (.p (.sl false 3 (cfg0.Schedules.map D.Schedule.cells)))])] [] (vI 0) [] := by
 refine Spec.intro Tryz.func31 rfl (by kernel_rfl) ?_
 intro Γ hGn hGk
 replace hGn : Γ.n = 45 := hGn
 replace hGk : Γ.names = [] := hGk
 have hqZ : cfg0.Zones.length = 0 := rfl
 have hqP : cfg0.People.length = 0 := rfl
 have hqC : cfg0.Calendars.length = 0 := rfl
 have hqS : cfg0.Schedules.length = 0 := rfl
 let a'1 : AV := (.p (.sl false 3 (cfg0.Zones.map D.Zone.cells)))
 let a'2 : AV := (.p (.sl false 6 (cfg0.People.map D.Person.cells)))
 let a'3 : AV := (.p (.sl false 3 (cfg0.Calendars.map D.Calendar.cells)))
 let a'4 : AV := (.p (.sl false 3 (cfg0.Schedules.map D.Schedule.cells)))
 let a'5 : AV := (.agg [a'1, a'2, a'3, a'4])
 refine AWp.weaken (mk [(0, a'5)] []) (Weak.sub' hGk (by kernel_rfl)) ?_
 let a'6 : AO := (.box [a'1, a'2, a'3, a'4])
 refine AWp.s_reg hGn hGk (aa 2) (Man.aa _ _) [(1, (.ref 1001 0))] [(1001, a'6)] (by kernel_rfl) (by kernel_rfl) ?_
 refine AWp.seq ?_
 refine AWp.s_reg hGn hGk [.a, .a, .m (some 8) ⟨[(7, a'1)], [], (vI ((cfg0.Zones.length : Nat) : Int)), [], []⟩, .m (some 9) ⟨[(8, (vI ((cfg0.Zones.length : Nat) : Int)))], [], (vB false), [], []⟩, .a, .a, .a, .m (some 13) ⟨[(12, a'2), (10, (vB false))], [], (vI ((cfg0.People.length : Nat) : Int)), [], []⟩, .m (some 14) ⟨[(13, (vI ((cfg0.People.length : Nat) : Int))), (10, (vB false))], [], (vB false), [], []⟩, .a, .a, .a, .a, .m (some 19) ⟨[(18, a'3), (16, (vB false))], [], (vI ((cfg0.Calendars.length : Nat) : Int)), [], []⟩, .m (some 20) ⟨[(19, (vI ((cfg0.Calendars.length : Nat) : Int))), (16, (vB false))], [], (vB false), [], []⟩, .a, .a, .a, .a, .m (some 25) ⟨[(24, a'4), (22, (vB false))], [], (vI ((cfg0.Schedules.length : Nat) : Int)), [], []⟩, .m (some 26) ⟨[(25, (vI ((cfg0.Schedules.length : Nat) : Int))), (22, (vB false))], [], (vB false), [], []⟩, .a] ⟨StepOK.p rfl rfl rfl (OpOK.lenP (e := 69) rfl rfl (by kernel_rfl) rfl (by rw [List.length_map])),
  StepOK.p rfl rfl rfl (OpOK.gtr rfl rfl rfl (decide_eq_false (by omega))),
  StepOK.g rfl rfl rfl rfl rfl (by simp) (OpOK.lenP (e := 73) rfl rfl (by kernel_rfl) rfl (by rw [List.length_map])),
  StepOK.g rfl rfl rfl rfl rfl (by simp) (OpOK.gtr rfl rfl rfl (decide_eq_false (by omega))),
  StepOK.g rfl rfl rfl rfl rfl (by simp) (OpOK.lenP (e := 112) rfl rfl (by kernel_rfl) rfl (by rw [List.length_map])),
  StepOK.g rfl rfl rfl rfl rfl (by simp) (OpOK.gtr rfl rfl rfl (decide_eq_false (by omega))),
  StepOK.g rfl rfl rfl rfl rfl (by simp) (OpOK.lenP (e := 83) rfl rfl (by kernel_rfl) rfl (by rw [List.length_map])),
  StepOK.g rfl rfl rfl rfl rfl (by simp) (OpOK.gtr rfl rfl rfl (decide_eq_false (by omega))), trivial⟩ [(1, (.ref 1001 0)), (27, (vB false))] [(1001, a'6)] (by kernel_rfl) (by kernel_rfl) ?_
 refine AWp.cond_false rfl ?_
 refine AWp.skip ?_
 refine nextQ_normal ?_
 refine AWp.seq ?_
 refine AWp.s_reg hGn hGk [.a, .m (some 29) ⟨[(28, a'5)], [], (vI 0), [], []⟩, .a] ⟨StepOK.p rfl rfl rfl (OpOK.call rfl (by kernel_rfl) rfl r080_zones (by kernel_rfl)), trivial⟩ [(1, (.ref 1001 0)), (3, (vI 0))] [(1001, a'6)] (by kernel_rfl) (by kernel_rfl) ?_
 refine AWp.s_reg hGn hGk (aa 2) (Man.aa _ _) [(1, (.ref 1001 0)), (3, (vI 0)), (31, (vB false))] [(1001, a'6)] (by kernel_rfl) (by kernel_rfl) ?_
 refine AWp.cond_false rfl ?_
 refine AWp.skip ?_
 refine nextQ_normal ?_
 refine AWp.seq ?_
 refine AWp.s_reg hGn hGk [.a, .m (some 34) ⟨[(33, a'5)], [], (vI 0), [], []⟩, .a] ⟨StepOK.p rfl rfl rfl (OpOK.call rfl (by kernel_rfl) rfl r080_people (by kernel_rfl)), trivial⟩ [(1, (.ref 1001 0)), (4, (vI 0))] [(1001, a'6)] (by kernel_rfl) (by kernel_rfl) ?_
 refine AWp.s_reg hGn hGk (aa 2) (Man.aa _ _) [(1, (.ref 1001 0)), (4, (vI 0)), (36, (vB false))] [(1001, a'6)] (by kernel_rfl) (by kernel_rfl) ?_
 refine AWp.cond_false rfl ?_
 refine AWp.skip ?_
 refine nextQ_normal ?_
 refine AWp.seq ?_
 refine AWp.s_reg hGn hGk [.a, .m (some 39) ⟨[(38, a'5)], [], (vI 0), [], []⟩, .a] ⟨StepOK.p rfl rfl rfl (OpOK.call rfl (by kernel_rfl) rfl r080_calendars (by kernel_rfl)), trivial⟩ [(1, (.ref 1001 0)), (5, (vI 0))] [(1001, a'6)] (by kernel_rfl) (by kernel_rfl) ?_
 refine AWp.s_reg hGn hGk (aa 2) (Man.aa _ _) [(1, (.ref 1001 0)), (5, (vI 0)), (41, (vB false))] [(1001, a'6)] (by kernel_rfl) (by kernel_rfl) ?_
 refine AWp.cond_false rfl ?_
 refine AWp.skip ?_
 refine nextQ_normal ?_
 refine AWp.s_reg hGn hGk [.a, .m (some 44) ⟨[(43, a'5)], [], (vI 0), [], []⟩, .a] ⟨StepOK.p rfl rfl rfl (OpOK.call rfl (by kernel_rfl) rfl r080_schedules (by kernel_rfl)), trivial⟩ [(2, (vI 0))] [] (by kernel_rfl) (by kernel_rfl) ?_
 refine AWp.ret ?_
 refine fin_of (.inr rfl) (v := (vI 0)) (Res.tmp rfl rfl) (h' := []) rfl rfl ?_
 exact ⟨rfl, rfl⟩
end Go.Proofs.YtnilcaihikfhbaaGreat
