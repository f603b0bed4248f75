/-
  The walks of the reference: configurations. Printed by wip/gen/pol.py.
-/
import Derived.Test.YtimfbibaoppfcaaGreatDoorCfgWalk3
set_option maxRecDepth 100000
set_option linter.unusedSimpArgs false
set_option linter.unusedVariables false
namespace Go.Proofs.YtimfbibaoppfcaaGreatDoor
open Go AM
theorem r04_occ (z : D.Zone) (hz : z.Rules = []) :
    SpecIs Tryz.prog 187 [(.p (.sl false 7 (z.Rules.map D.YearRule.cells)))] [] (.p (.sl true 0 [])) [] := by
 refine Spec.intro Tryz.func187 rfl (by kernel_rfl) ?_
 intro Γ hGn hGk
 replace hGn : Γ.n = 98 := hGn
 replace hGk : Γ.names = [] := hGk
 have hrl : z.Rules.length = 0 := by rw [hz]; rfl
 let a'1 : AV := (.p (.sl false 7 (z.Rules.map D.YearRule.cells)))
 refine AWp.weaken (mk [(0, a'1)] []) (Weak.sub' hGk (by kernel_rfl)) ?_
 refine AWp.s_reg hGn hGk (aa 1) (Man.aa _ _) [(0, a'1)] [] (by kernel_rfl) (by kernel_rfl) ?_
 refine AWp.s_reg hGn hGk (aa 1) (Man.aa _ _) [(0, a'1), (3, (.p (.sl true 0 [])))] [] (by kernel_rfl) (by kernel_rfl) ?_
 refine AWp.seq ?_
 refine AWp.s_reg hGn hGk (aa 1) (Man.aa _ _) [(0, a'1), (3, (.p (.sl true 0 []))), (4, (vI 0))] [] (by kernel_rfl) (by kernel_rfl) ?_
 refine AWp.block ?_
 refine AWp.loop (fun m s =>  s = (mk [(0, (.p (.sl false 7 (z.Rules.map D.YearRule.cells)))), (3, (.p (.sl true 0 []))), (4, (vI 0))] []) ∧ m = 0)
  ⟨_, rfl, rfl⟩ ?_
 rintro mm1 s ⟨rfl, hmm1⟩
 refine AWp.seq ?_
 refine AWp.s_reg hGn hGk [.a, .a, .m (some 12) ⟨[(11, a'1)], [], (vI ((z.Rules.length : Nat) : Int)), [], []⟩, .m (some 13) ⟨[(10, (vI 0)), (12, (vI ((z.Rules.length : Nat) : Int)))], [], (vB false), [], []⟩] ⟨StepOK.p rfl rfl rfl (OpOK.lenP (e := 162) rfl rfl (by kernel_rfl) rfl (by rw [List.length_map])),
  StepOK.p rfl rfl rfl (OpOK.lss rfl rfl rfl (decide_eq_false (by omega))), trivial⟩ [(0, a'1), (3, (.p (.sl true 0 []))), (4, (vI 0)), (13, (vB false))] [] (by kernel_rfl) (by kernel_rfl) ?_
 refine AWp.cond_false rfl ?_
 refine AWp.weaken (mk [(3, (.p (.sl true 0 [])))] []) (Weak.sub' hGk (by kernel_rfl)) ?_
 refine AWp.exit ?_
 refine nextQ_exit ?_
 refine nextQ_exit ?_
 refine blockQ_exit ?_
 refine nextQ_normal ?_
 refine AWp.s_reg hGn hGk (aa 2) (Man.aa _ _) [(2, (.p (.sl true 0 [])))] [] (by kernel_rfl) (by kernel_rfl) ?_
 refine AWp.ret ?_
 refine fin_of (.inr rfl) (v := (.p (.sl true 0 []))) (Res.tmp rfl rfl) (h' := []) rfl rfl ?_
 exact ⟨rfl, rfl⟩
theorem r04_tr (z : D.Zone) (hz : z.Rules = []) (ho : -64800 ≤ z.Offset ∧ z.Offset ≤ 64800) :
    SpecIs Tryz.prog 159 [(.agg [(vS z.Name), (vI z.Offset), (.p (.sl false 7 (z.Rules.map D.YearRule.cells)))])] [] (.tup [(.p (.sl true 0 [])), (vI 0)]) [] := by
 refine Spec.intro Tryz.func159 rfl (by kernel_rfl) ?_
 intro Γ hGn hGk
 replace hGn : Γ.n = 119 := hGn
 replace hGk : Γ.names = [] := hGk
 have hrl : z.Rules.length = 0 := by rw [hz]; rfl
 let a'1 : AV := (.p (.sl false 7 (z.Rules.map D.YearRule.cells)))
 refine AWp.weaken (mk [(0, (.agg [(vS z.Name), (vI z.Offset), a'1]))] []) (Weak.sub' hGk (by kernel_rfl)) ?_
 let a'2 : AO := (.box [(vS z.Name), (vI z.Offset), a'1])
 refine AWp.s_reg hGn hGk (aa 3) (Man.aa _ _) [(1, (.ref 1001 0))] [(1001, a'2)] (by kernel_rfl) (by kernel_rfl) ?_
 refine AWp.seq ?_
 refine AWp.s_reg hGn hGk [.a, .a, .m (some 13) ⟨[(12, (vI z.Offset))], [], (vB true), [], []⟩, .a] ⟨StepOK.p rfl rfl rfl (OpOK.call rfl (by kernel_rfl) rfl (by have hq := (r04_in z.Offset ((-64800) : Int) (64800 : Int)); rw [(inB_true (by omega))] at hq; exact hq) (by kernel_rfl)), trivial⟩ [(1, (.ref 1001 0)), (14, (vB false))] [(1001, a'2)] (by kernel_rfl) (by kernel_rfl) ?_
 refine AWp.cond_false rfl ?_
 refine AWp.skip ?_
 refine nextQ_normal ?_
 refine AWp.seq ?_
 refine AWp.s_reg hGn hGk [.a, .a, .m (some 17) ⟨[(16, a'1)], [], (vI ((z.Rules.length : Nat) : Int)), [], []⟩, .m (some 18) ⟨[(17, (vI ((z.Rules.length : Nat) : Int)))], [], (vB false), [], []⟩] ⟨StepOK.p rfl rfl rfl (OpOK.lenP (e := 162) rfl rfl (by kernel_rfl) rfl (by rw [List.length_map])),
  StepOK.p rfl rfl rfl (OpOK.gtr rfl rfl rfl (decide_eq_false (by omega))), trivial⟩ [(1, (.ref 1001 0)), (18, (vB false))] [(1001, a'2)] (by kernel_rfl) (by kernel_rfl) ?_
 refine AWp.cond_false rfl ?_
 refine AWp.skip ?_
 refine nextQ_normal ?_
 refine AWp.s_reg hGn hGk (aa 1) (Man.aa _ _) [(1, (.ref 1001 0)), (4, (vI 0))] [(1001, a'2)] (by kernel_rfl) (by kernel_rfl) ?_
 refine AWp.seq ?_
 refine AWp.s_reg hGn hGk (aa 1) (Man.aa _ _) [(1, (.ref 1001 0)), (4, (vI 0)), (5, (vI 0))] [(1001, a'2)] (by kernel_rfl) (by kernel_rfl) ?_
 refine AWp.block ?_
 refine AWp.loop (fun m s =>  s = (mk [(1, (.ref 1001 0)), (4, (vI 0)), (5, (vI 0))] [(1001, (.box [(vS z.Name), (vI z.Offset), (.p (.sl false 7 (z.Rules.map D.YearRule.cells)))]))]) ∧ m = 0)
  ⟨_, rfl, rfl⟩ ?_
 rintro mm1 s ⟨rfl, hmm1⟩
 refine AWp.seq ?_
 refine AWp.s_reg hGn hGk [.a, .a, .a, .m (some 22) ⟨[(21, a'1)], [], (vI ((z.Rules.length : Nat) : Int)), [], []⟩, .m (some 23) ⟨[(19, (vI 0)), (22, (vI ((z.Rules.length : Nat) : Int)))], [], (vB false), [], []⟩] ⟨StepOK.p rfl rfl rfl (OpOK.lenP (e := 162) rfl rfl (by kernel_rfl) rfl (by rw [List.length_map])),
  StepOK.p rfl rfl rfl (OpOK.lss rfl rfl rfl (decide_eq_false (by omega))), trivial⟩ [(1, (.ref 1001 0)), (4, (vI 0)), (5, (vI 0)), (23, (vB false))] [(1001, a'2)] (by kernel_rfl) (by kernel_rfl) ?_
 refine AWp.cond_false rfl ?_
 refine AWp.weaken (mk [(1, (.ref 1001 0)), (4, (vI 0))] [(1001, a'2)]) (Weak.sub' hGk (by kernel_rfl)) ?_
 refine AWp.exit ?_
 refine nextQ_exit ?_
 refine nextQ_exit ?_
 refine blockQ_exit ?_
 refine nextQ_normal ?_
 refine AWp.seq ?_
 refine AWp.s_reg hGn hGk (aa 2) (Man.aa _ _) [(1, (.ref 1001 0)), (50, (vB false))] [(1001, a'2)] (by kernel_rfl) (by kernel_rfl) ?_
 refine AWp.cond_false rfl ?_
 refine AWp.skip ?_
 refine nextQ_normal ?_
 refine AWp.s_reg hGn hGk (aa 1) (Man.aa _ _) [(1, (.ref 1001 0)), (6, (.p (.sl true 0 [])))] [(1001, a'2)] (by kernel_rfl) (by kernel_rfl) ?_
 refine AWp.s_reg hGn hGk [.a, .a, .m (some 53) ⟨[(52, a'1)], [], (.p (.sl true 0 [])), [], []⟩, .a] ⟨StepOK.p rfl rfl rfl (OpOK.call rfl (by kernel_rfl) rfl (r04_occ z hz) (by kernel_rfl)), trivial⟩ [(1, (.ref 1001 0)), (6, (.p (.sl true 0 []))), (7, (.p (.sl true 0 [])))] [(1001, a'2)] (by kernel_rfl) (by kernel_rfl) ?_
 refine AWp.s_reg hGn hGk (aa 3) (Man.aa _ _) [(6, (.p (.sl true 0 []))), (7, (.p (.sl true 0 []))), (8, (vI z.Offset))] [] (by kernel_rfl) (by kernel_rfl) ?_
 refine AWp.seq ?_
 refine AWp.s_reg hGn hGk (aa 1) (Man.aa _ _) [(6, (.p (.sl true 0 []))), (7, (.p (.sl true 0 []))), (8, (vI z.Offset)), (9, (vI 0))] [] (by kernel_rfl) (by kernel_rfl) ?_
 refine AWp.block ?_
 refine AWp.loop (fun m s =>  s = (mk [(6, (.p (.sl true 0 []))), (7, (.p (.sl true 0 []))), (8, (vI z.Offset)), (9, (vI 0))] []) ∧ m = 0)
  ⟨_, rfl, rfl⟩ ?_
 rintro mm2 s ⟨rfl, hmm2⟩
 refine AWp.seq ?_
 refine AWp.s_reg hGn hGk [.a, .a, .m (some 58) ⟨[(57, (.p (.sl true 0 [])))], [], (vI 0), [], []⟩, .a] ⟨StepOK.p rfl rfl rfl (OpOK.lenP (e := 239) rfl rfl (by kernel_rfl) rfl rfl), trivial⟩ [(6, (.p (.sl true 0 []))), (7, (.p (.sl true 0 []))), (8, (vI z.Offset)), (9, (vI 0)), (59, (vB false))] [] (by kernel_rfl) (by kernel_rfl) ?_
 refine AWp.cond_false rfl ?_
 refine AWp.weaken (mk [(6, (.p (.sl true 0 [])))] []) (Weak.sub' hGk (by kernel_rfl)) ?_
 refine AWp.exit ?_
 refine nextQ_exit ?_
 refine nextQ_exit ?_
 refine blockQ_exit ?_
 refine nextQ_normal ?_
 refine AWp.s_reg hGn hGk (aa 3) (Man.aa _ _) [(2, (.p (.sl true 0 []))), (3, (vI 0))] [] (by kernel_rfl) (by kernel_rfl) ?_
 refine AWp.ret ?_
 refine fin_of (.inr rfl) (v := (.tup [(.p (.sl true 0 [])), (vI 0)])) (Res.many (by kernel_rfl) (Res1s.cons (Res1.tmp rfl) (Res1s.cons (Res1.tmp rfl) Res1s.nil))) (h' := []) rfl rfl ?_
 exact ⟨rfl, rfl⟩
theorem r04_Check (z : D.Zone) (hz : z.Rules = []) (ho : -64800 ≤ z.Offset ∧ z.Offset ≤ 64800) :
    SpecIs Tryz.prog 124 [(.agg [(vS z.Name), (vI z.Offset), (.p (.sl false 7 (z.Rules.map D.YearRule.cells)))])] [] (vI 0) [] := by
 refine Spec.intro Tryz.func124 rfl (by kernel_rfl) ?_
 intro Γ hGn hGk
 replace hGn : Γ.n = 11 := hGn
 replace hGk : Γ.names = [] := hGk
 let a'1 : AV := (.p (.sl false 7 (z.Rules.map D.YearRule.cells)))
 refine AWp.weaken (mk [(0, (.agg [(vS z.Name), (vI z.Offset), a'1]))] []) (Weak.sub' hGk (by kernel_rfl)) ?_
 refine AWp.s_reg hGn hGk (aa 2) (Man.aa _ _) [(1, (.ref 1001 0))] [(1001, (.box [(vS z.Name), (vI z.Offset), a'1]))] (by kernel_rfl) (by kernel_rfl) ?_
 refine AWp.s_reg hGn hGk [.a, .m (some 7) ⟨[(6, (.agg [(vS z.Name), (vI z.Offset), a'1]))], [], (.tup [(.p (.sl true 0 [])), (vI 0)]), [], []⟩, .a, .a, .a, .a, .a] ⟨StepOK.p rfl rfl rfl (OpOK.call rfl (by kernel_rfl) rfl (r04_tr z hz ho) (by kernel_rfl)), trivial⟩ [(4, (vI 0))] [] (by kernel_rfl) (by kernel_rfl) ?_
 refine AWp.s_reg hGn hGk (aa 2) (Man.aa _ _) [(2, (vI 0))] [] (by kernel_rfl) (by kernel_rfl) ?_
 refine AWp.ret ?_
 refine fin_of (.inr rfl) (v := (vI 0)) (Res.tmp rfl rfl) (h' := []) rfl rfl ?_
 exact ⟨rfl, rfl⟩
theorem r08_minutes (z : D.Zone) (hz : z.Rules = []) (hm : z.Offset % 60 = 0) :
    SpecIs Tryz.prog 125 [(.agg [(vS z.Name), (vI z.Offset), (.p (.sl false 7 (z.Rules.map D.YearRule.cells)))])] [] (vB true) [] := by
 refine Spec.intro Tryz.func125 rfl (by kernel_rfl) ?_
 intro Γ hGn hGk
 replace hGn : Γ.n = 28 := hGn
 replace hGk : Γ.names = [] := hGk
 have hrl : z.Rules.length = 0 := by rw [hz]; rfl
 have hm0 : z.Offset.tmod 60 = 0 := Int.tmod_eq_zero_of_dvd (Int.dvd_of_emod_eq_zero hm)
 let a'1 : AV := (.p (.sl false 7 (z.Rules.map D.YearRule.cells)))
 refine AWp.weaken (mk [(0, (.agg [(vS z.Name), (vI z.Offset), a'1]))] []) (Weak.sub' hGk (by kernel_rfl)) ?_
 let a'2 : AO := (.box [(vS z.Name), (vI z.Offset), a'1])
 refine AWp.s_reg hGn hGk (aa 2) (Man.aa _ _) [(1, (.ref 1001 0))] [(1001, a'2)] (by kernel_rfl) (by kernel_rfl) ?_
 refine AWp.s_reg hGn hGk [.a, .a, .m (some 7) ⟨[(6, (vI z.Offset))], [], (vI 0), [], []⟩, .a, .a] ⟨StepOK.p rfl rfl rfl (OpOK.rem rfl rfl rfl (by omega) hm0), trivial⟩ [(1, (.ref 1001 0)), (3, (vB true))] [(1001, a'2)] (by kernel_rfl) (by kernel_rfl) ?_
 refine AWp.seq ?_
 refine AWp.s_reg hGn hGk (aa 1) (Man.aa _ _) [(1, (.ref 1001 0)), (3, (vB true)), (4, (vI 0))] [(1001, a'2)] (by kernel_rfl) (by kernel_rfl) ?_
 refine AWp.block ?_
 refine AWp.loop (fun m s =>  s = (mk [(1, (.ref 1001 0)), (3, (vB true)), (4, (vI 0))] [(1001, (.box [(vS z.Name), (vI z.Offset), (.p (.sl false 7 (z.Rules.map D.YearRule.cells)))]))]) ∧ m = 0)
  ⟨_, rfl, rfl⟩ ?_
 rintro mm1 s ⟨rfl, hmm1⟩
 refine AWp.seq ?_
 refine AWp.s_reg hGn hGk [.a, .a, .a, .m (some 12) ⟨[(11, a'1)], [], (vI ((z.Rules.length : Nat) : Int)), [], []⟩, .m (some 13) ⟨[(9, (vI 0)), (12, (vI ((z.Rules.length : Nat) : Int)))], [], (vB false), [], []⟩] ⟨StepOK.p rfl rfl rfl (OpOK.lenP (e := 162) rfl rfl (by kernel_rfl) rfl (by rw [List.length_map])),
  StepOK.p rfl rfl rfl (OpOK.lss rfl rfl rfl (decide_eq_false (by omega))), trivial⟩ [(1, (.ref 1001 0)), (3, (vB true)), (4, (vI 0)), (13, (vB false))] [(1001, a'2)] (by kernel_rfl) (by kernel_rfl) ?_
 refine AWp.cond_false rfl ?_
 refine AWp.weaken (mk [(3, (vB true))] []) (Weak.sub' hGk (by kernel_rfl)) ?_
 refine AWp.exit ?_
 refine nextQ_exit ?_
 refine nextQ_exit ?_
 refine blockQ_exit ?_
 refine nextQ_normal ?_
 refine AWp.s_reg hGn hGk (aa 2) (Man.aa _ _) [(2, (vB true))] [] (by kernel_rfl) (by kernel_rfl) ?_
 refine AWp.ret ?_
 refine fin_of (.inr rfl) (v := (vB true)) (Res.tmp rfl rfl) (h' := []) rfl rfl ?_
 exact ⟨rfl, rfl⟩
theorem r08_hours (n : Int) (hn : n = 0) :
    SpecIs Tryz.prog 128 [(vI n)] [] (vB true) [] := by
 refine Spec.intro Tryz.func128 rfl (by kernel_rfl) ?_
 intro Γ hGn hGk
 replace hGn : Γ.n = 10 := hGn
 replace hGk : Γ.names = [] := hGk
 refine AWp.weaken (mk [(0, (vI n))] []) (Weak.sub' hGk (by kernel_rfl)) ?_
 refine AWp.s_reg hGn hGk (aa 1) (Man.aa _ _) [(0, (vI n))] [] (by kernel_rfl) (by kernel_rfl) ?_
 refine AWp.s_reg hGn hGk [.a, .m (some 4) ⟨[(3, (vI n))], [], (vB true), [], []⟩, .a, .a, .m (some 7) ⟨[(6, (vI n)), (5, (vB true))], [], (vI (n % 3600)), [], []⟩, .m (some 8) ⟨[(7, (vI (n % 3600))), (5, (vB true))], [], (vB true), [], []⟩, .a, .a] ⟨StepOK.p rfl rfl rfl (OpOK.call rfl (by kernel_rfl) rfl (by have hq := (r08_in n (0 : Int) (604800 : Int)); rw [(inB_true (by omega))] at hq; exact hq) (by kernel_rfl)),
  StepOK.g rfl rfl rfl rfl rfl (by simp) (OpOK.rem rfl rfl rfl (by omega) (Int.tmod_eq_emod_of_nonneg (by omega))),
  StepOK.g rfl rfl rfl rfl rfl (by simp) (OpOK.eqlI rfl rfl rfl (decide_eq_true (by omega))), trivial⟩ [(2, (vB true))] [] (by kernel_rfl) (by kernel_rfl) ?_
 refine AWp.ret ?_
 refine fin_of (.inr rfl) (v := (vB true)) (Res.tmp rfl rfl) (h' := []) rfl rfl ?_
 exact ⟨rfl, rfl⟩
theorem r01_year  :
    SpecIs Tryz.prog 160 [(vI 2241)] [] (vI 98981) [] := by
 refine Spec.intro Tryz.func160 rfl (by kernel_rfl) ?_
 intro Γ hGn hGk
 replace hGn : Γ.n = 18 := hGn
 replace hGk : Γ.names = [] := hGk
 refine AWp.weaken (mk [(0, (vI 2241))] []) (Weak.sub' hGk (by kernel_rfl)) ?_
 refine AWp.s_reg hGn hGk (aa 1) (Man.aa _ _) [(0, (vI 2241))] [] (by kernel_rfl) (by kernel_rfl) ?_
 refine AWp.s_reg hGn hGk [.a, .m (some 4) ⟨[(3, (vI 2241))], [], (vI 271), [], []⟩, .m (some 5) ⟨[(4, (vI 271))], [], (vI 98915), [], []⟩, .a, .m (some 7) ⟨[(6, (vI 2241))], [], (vI 272), [], []⟩, .m (some 8) ⟨[(7, (vI 272))], [], (vI 68), [], []⟩, .m (some 9) ⟨[(5, (vI 98915)), (8, (vI 68))], [], (vI 98983), [], []⟩, .a, .m (some 11) ⟨[(10, (vI 2241))], [], (vI 340), [], []⟩, .m (some 12) ⟨[(11, (vI 340))], [], (vI 3), [], []⟩, .m (some 13) ⟨[(9, (vI 98983)), (12, (vI 3))], [], (vI 98980), [], []⟩, .a, .m (some 15) ⟨[(14, (vI 2241))], [], (vI 640), [], []⟩, .m (some 16) ⟨[(15, (vI 640))], [], (vI 1), [], []⟩, .m (some 17) ⟨[(13, (vI 98980)), (16, (vI 1))], [], (vI 98981), [], []⟩, .a] ⟨StepOK.p rfl rfl rfl (OpOK.sub rfl rfl rfl (by decide)),
  StepOK.p rfl rfl rfl (OpOK.mul rfl rfl rfl (by decide)),
  StepOK.p rfl rfl rfl (OpOK.sub rfl rfl rfl (by decide)),
  StepOK.p rfl rfl rfl (OpOK.quo rfl rfl rfl (by decide) (by decide)),
  StepOK.p rfl rfl rfl (OpOK.add rfl rfl rfl (by decide)),
  StepOK.p rfl rfl rfl (OpOK.sub rfl rfl rfl (by decide)),
  StepOK.p rfl rfl rfl (OpOK.quo rfl rfl rfl (by decide) (by decide)),
  StepOK.p rfl rfl rfl (OpOK.sub rfl rfl rfl (by decide)),
  StepOK.p rfl rfl rfl (OpOK.sub rfl rfl rfl (by decide)),
  StepOK.p rfl rfl rfl (OpOK.quo rfl rfl rfl (by decide) (by decide)),
  StepOK.p rfl rfl rfl (OpOK.add rfl rfl rfl (by decide)), trivial⟩ [(2, (vI 98981))] [] (by kernel_rfl) (by kernel_rfl) ?_
 refine AWp.ret ?_
 refine fin_of (.inr rfl) (v := (vI 98981)) (Res.tmp rfl rfl) (h' := []) rfl rfl ?_
 exact ⟨rfl, rfl⟩
theorem r01_MaxDay  :
    SpecIs Tryz.prog 129 [] [] (vI 98980) [] := by
 refine Spec.intro Tryz.func129 rfl (by kernel_rfl) ?_
 intro Γ hGn hGk
 replace hGn : Γ.n = 3 := hGn
 replace hGk : Γ.names = [] := hGk
 refine AWp.weaken (mk [] []) (Weak.sub' hGk (by kernel_rfl)) ?_
 refine AWp.s_reg hGn hGk (aa 1) (Man.aa _ _) [] [] (by kernel_rfl) (by kernel_rfl) ?_
 refine AWp.s_reg hGn hGk [.m (some 1) ⟨[], [], (vI 98981), [], []⟩, .m (some 2) ⟨[(1, (vI 98981))], [], (vI 98980), [], []⟩, .a] ⟨StepOK.p rfl rfl rfl (OpOK.call rfl (by kernel_rfl) rfl r01_year (by kernel_rfl)),
  StepOK.p rfl rfl rfl (OpOK.sub rfl rfl rfl (by decide)), trivial⟩ [(0, (vI 98980))] [] (by kernel_rfl) (by kernel_rfl) ?_
 refine AWp.ret ?_
 refine fin_of (.inr rfl) (v := (vI 98980)) (Res.tmp rfl rfl) (h' := []) rfl rfl ?_
 exact ⟨rfl, rfl⟩
theorem r05_Check (l : List D.Window) :
    SpecIs Tryz.prog 127 [(.p (.sl false 2 (l.map D.Window.cells)))] [] (vI (windowsErr l)) [] := by
 refine Spec.intro Tryz.func127 rfl (by kernel_rfl) ?_
 intro Γ hGn hGk
 replace hGn : Γ.n = 56 := hGn
 replace hGk : Γ.names = [] := hGk
 let a'1 : AV := (.p (.sl false 2 (l.map D.Window.cells)))
 refine AWp.weaken (mk [(0, a'1)] []) (Weak.sub' hGk (by kernel_rfl)) ?_
 refine AWp.s_reg hGn hGk (aa 1) (Man.aa _ _) [(0, a'1)] [] (by kernel_rfl) (by kernel_rfl) ?_
 refine AWp.seq ?_
 refine AWp.s_reg hGn hGk [.a, .m (some 5) ⟨[(4, a'1)], [], (vI ((l.length : Nat) : Int)), [], []⟩, .a] ⟨StepOK.p rfl rfl rfl (OpOK.lenP (e := 77) rfl rfl (by kernel_rfl) rfl (by rw [List.length_map])), trivial⟩ [(0, a'1), (6, (vB (decide ((14 : Int) < ((l.length : Nat) : Int)))))] [] (by kernel_rfl) (by kernel_rfl) ?_
 refine AWp.cond (decide ((14 : Int) < ((l.length : Nat) : Int))) rfl (fun hc1 => ?_) (fun hc1 => ?_)
 ·skip
  replace hc1 := of_decide_eq_true hc1
  refine AWp.s_reg hGn hGk (aa 1) (Man.aa _ _) [(2, (vI 5))] [] (by kernel_rfl) (by kernel_rfl) ?_
  refine AWp.ret ?_
  refine nextQ_ret ?_
  refine fin_of (.inr rfl) (v := (vI 5)) (Res.tmp rfl rfl) (h' := []) rfl rfl ?_
  exact ⟨by rw [show windowsErr l = 5 from by unfold windowsErr; rw [if_pos (by omega)]], rfl⟩
 ·skip
  replace hc1 := of_decide_eq_false hc1
  refine AWp.skip ?_
  refine nextQ_normal ?_
  refine AWp.seq ?_
  refine AWp.s_reg hGn hGk (aa 1) (Man.aa _ _) [(0, a'1), (3, (vI 0))] [] (by kernel_rfl) (by kernel_rfl) ?_
  refine AWp.block ?_
  refine AWp.loop (fun m s => ∃ i, s = (mk [(0, (.p (.sl false 2 (l.map D.Window.cells)))), (3, (vI ((i : Nat) : Int)))] []) ∧ (i ≤ l.length) ∧ (firstN (windowErr l) i = 0) ∧ m = (l.length - i))
   ⟨_, 0, rfl, (by omega), rfl, rfl⟩ ?_
  rintro mm2 s ⟨i, rfl, hi, hz, hmm2⟩
  refine AWp.seq ?_
  refine AWp.s_reg hGn hGk [.a, .a, .m (some 9) ⟨[(8, a'1)], [], (vI ((l.length : Nat) : Int)), [], []⟩, .a] ⟨StepOK.p rfl rfl rfl (OpOK.lenP (e := 77) rfl rfl (by kernel_rfl) rfl (by rw [List.length_map])), trivial⟩ [(0, a'1), (3, (vI ((i : Nat) : Int))), (10, (vB (decide (((i : Nat) : Int) < ((l.length : Nat) : Int)))))] [] (by kernel_rfl) (by kernel_rfl) ?_
  refine AWp.cond (decide (((i : Nat) : Int) < ((l.length : Nat) : Int))) rfl (fun hc3 => ?_) (fun hc3 => ?_)
  ·skip
   replace hc3 := of_decide_eq_true hc3
   refine AWp.skip ?_
   refine nextQ_normal ?_
   refine AWp.seq ?_
   refine AWp.block ?_
   refine AWp.seq ?_
   by_cases hs4 : ((nth l i).From) < (0 : Int)
   ·skip
    first | refine AWp.cast (show (mk [(0, (.p (.sl false 2 (l.map D.Window.cells)))), (3, (vI ((i : Nat) : Int))), (10, (vB (decide (((i : Nat) : Int) < ((l.length : Nat) : Int)))))] []) = (mk [(0, (.p (.sl false 2 (l.map D.Window.cells)))), (3, (vI ((i : Nat) : Int))), (10, (vB true))] []) from by rw [(decide_eq_true hc3)]) ?_ | skip
    refine AWp.s_dreg hGn hGk (by kernel_rfl) [.a, .a, .m (some 15) ⟨[(13, a'1), (14, (vI ((i : Nat) : Int)))], [], (.eptr [(pI ((nth l i).From)), (pI ((nth l i).To))]), [], []⟩, .a, .a, .m (some 18) ⟨[(17, (vI ((nth l i).From)))], [], (vB true), [], []⟩, .a, .a, .a, .a, .a, .a, .a, .a, .a, .a, .a, .a, .a, .a, .a, .a, .a, .a, .a, .a, .a] ⟨StepOK.p rfl rfl rfl (OpOK.indexP (e := 77) rfl (by kernel_rfl) (by kernel_rfl) rfl rfl rfl (map_nth (by omega))),
     StepOK.p rfl rfl rfl (OpOK.lss rfl rfl rfl (decide_eq_true hs4)), trivial⟩ [(0, a'1), (3, (vI ((i : Nat) : Int))), (39, (vB true))] [] (by kernel_rfl) (by kernel_rfl) (by kernel_rfl) ?_
    refine AWp.cond_true rfl ?_
    refine AWp.s_reg hGn hGk (aa 1) (Man.aa _ _) [(2, (vI 1))] [] (by kernel_rfl) (by kernel_rfl) ?_
    refine AWp.ret ?_
    refine nextQ_ret ?_
    refine blockQ_ret ?_
    refine nextQ_ret ?_
    refine nextQ_ret ?_
    refine blockQ_ret ?_
    refine nextQ_ret ?_
    refine fin_of (.inr rfl) (v := (vI 1)) (Res.tmp rfl rfl) (h' := []) rfl rfl ?_
    exact ⟨by rw [show windowsErr l = 1 from by unfold windowsErr; rw [if_neg (by omega)]; exact firstN_err hz (by omega) (by unfold windowErr; rw [if_pos (by omega)]) (by decide)], rfl⟩
   ·skip
    first | refine AWp.cast (show (mk [(0, (.p (.sl false 2 (l.map D.Window.cells)))), (3, (vI ((i : Nat) : Int))), (10, (vB (decide (((i : Nat) : Int) < ((l.length : Nat) : Int)))))] []) = (mk [(0, (.p (.sl false 2 (l.map D.Window.cells)))), (3, (vI ((i : Nat) : Int))), (10, (vB true))] []) from by rw [(decide_eq_true hc3)]) ?_ | skip
    by_cases hs5 : ((nth l i).To) ≤ ((nth l i).From)
    ·skip
     refine AWp.s_dreg hGn hGk (by kernel_rfl) [.a, .a, .m (some 15) ⟨[(13, a'1), (14, (vI ((i : Nat) : Int)))], [], (.eptr [(pI ((nth l i).From)), (pI ((nth l i).To))]), [], []⟩, .a, .a, .m (some 18) ⟨[(17, (vI ((nth l i).From)))], [], (vB false), [], []⟩, .a, .a, .a, .m (some 22) ⟨[(20, a'1), (21, (vI ((i : Nat) : Int))), (19, (vB false))], [], (.eptr [(pI ((nth l i).From)), (pI ((nth l i).To))]), [], []⟩, .a, .a, .a, .a, .m (some 27) ⟨[(25, a'1), (26, (vI ((i : Nat) : Int))), (19, (vB false))], [], (.eptr [(pI ((nth l i).From)), (pI ((nth l i).To))]), [], []⟩, .a, .a, .m (some 30) ⟨[(24, (vI ((nth l i).From))), (29, (vI ((nth l i).To))), (19, (vB false))], [], (vB true), [], []⟩, .a, .a, .a, .a, .a, .a, .a, .a, .a] ⟨StepOK.p rfl rfl rfl (OpOK.indexP (e := 77) rfl (by kernel_rfl) (by kernel_rfl) rfl rfl rfl (map_nth (by omega))),
      StepOK.p rfl rfl rfl (OpOK.lss rfl rfl rfl (decide_eq_false hs4)),
      StepOK.g rfl rfl rfl rfl rfl (by simp) (OpOK.indexP (e := 77) rfl (by kernel_rfl) (by kernel_rfl) rfl rfl rfl (map_nth (by omega))),
      StepOK.g rfl rfl rfl rfl rfl (by simp) (OpOK.indexP (e := 77) rfl (by kernel_rfl) (by kernel_rfl) rfl rfl rfl (map_nth (by omega))),
      StepOK.g rfl rfl rfl rfl rfl (by simp) (OpOK.geq rfl rfl rfl (decide_eq_true hs5)), trivial⟩ [(0, a'1), (3, (vI ((i : Nat) : Int))), (39, (vB true))] [] (by kernel_rfl) (by kernel_rfl) (by kernel_rfl) ?_
     refine AWp.cond_true rfl ?_
     refine AWp.s_reg hGn hGk (aa 1) (Man.aa _ _) [(2, (vI 1))] [] (by kernel_rfl) (by kernel_rfl) ?_
     refine AWp.ret ?_
     refine nextQ_ret ?_
     refine blockQ_ret ?_
     refine nextQ_ret ?_
     refine nextQ_ret ?_
     refine blockQ_ret ?_
     refine nextQ_ret ?_
     refine fin_of (.inr rfl) (v := (vI 1)) (Res.tmp rfl rfl) (h' := []) rfl rfl ?_
     exact ⟨by rw [show windowsErr l = 1 from by unfold windowsErr; rw [if_neg (by omega)]; exact firstN_err hz (by omega) (by unfold windowErr; rw [if_pos (by omega)]) (by decide)], rfl⟩
    ·skip
     refine AWp.s_dreg hGn hGk (by kernel_rfl) [.a, .a, .m (some 15) ⟨[(13, a'1), (14, (vI ((i : Nat) : Int)))], [], (.eptr [(pI ((nth l i).From)), (pI ((nth l i).To))]), [], []⟩, .a, .a, .m (some 18) ⟨[(17, (vI ((nth l i).From)))], [], (vB false), [], []⟩, .a, .a, .a, .m (some 22) ⟨[(20, a'1), (21, (vI ((i : Nat) : Int))), (19, (vB false))], [], (.eptr [(pI ((nth l i).From)), (pI ((nth l i).To))]), [], []⟩, .a, .a, .a, .a, .m (some 27) ⟨[(25, a'1), (26, (vI ((i : Nat) : Int))), (19, (vB false))], [], (.eptr [(pI ((nth l i).From)), (pI ((nth l i).To))]), [], []⟩, .a, .a, .m (some 30) ⟨[(24, (vI ((nth l i).From))), (29, (vI ((nth l i).To))), (19, (vB false))], [], (vB false), [], []⟩, .a, .a, .a, .a, .m (some 35) ⟨[(33, a'1), (34, (vI ((i : Nat) : Int))), (32, (vB false))], [], (.eptr [(pI ((nth l i).From)), (pI ((nth l i).To))]), [], []⟩, .a, .a, .a, .a] ⟨StepOK.p rfl rfl rfl (OpOK.indexP (e := 77) rfl (by kernel_rfl) (by kernel_rfl) rfl rfl rfl (map_nth (by omega))),
      StepOK.p rfl rfl rfl (OpOK.lss rfl rfl rfl (decide_eq_false hs4)),
      StepOK.g rfl rfl rfl rfl rfl (by simp) (OpOK.indexP (e := 77) rfl (by kernel_rfl) (by kernel_rfl) rfl rfl rfl (map_nth (by omega))),
      StepOK.g rfl rfl rfl rfl rfl (by simp) (OpOK.indexP (e := 77) rfl (by kernel_rfl) (by kernel_rfl) rfl rfl rfl (map_nth (by omega))),
      StepOK.g rfl rfl rfl rfl rfl (by simp) (OpOK.geq rfl rfl rfl (decide_eq_false hs5)),
      StepOK.g rfl rfl rfl rfl rfl (by simp) (OpOK.indexP (e := 77) rfl (by kernel_rfl) (by kernel_rfl) rfl rfl rfl (map_nth (by omega))), trivial⟩ [(0, a'1), (3, (vI ((i : Nat) : Int))), (39, (vB (decide ((604800 : Int) < ((nth l i).To)))))] [] (by kernel_rfl) (by kernel_rfl) (by kernel_rfl) ?_
     refine AWp.cond (decide ((604800 : Int) < ((nth l i).To))) rfl (fun hc6 => ?_) (fun hc6 => ?_)
     ·skip
      replace hc6 := of_decide_eq_true hc6
      refine AWp.s_reg hGn hGk (aa 1) (Man.aa _ _) [(2, (vI 1))] [] (by kernel_rfl) (by kernel_rfl) ?_
      refine AWp.ret ?_
      refine nextQ_ret ?_
      refine blockQ_ret ?_
      refine nextQ_ret ?_
      refine nextQ_ret ?_
      refine blockQ_ret ?_
      refine nextQ_ret ?_
      refine fin_of (.inr rfl) (v := (vI 1)) (Res.tmp rfl rfl) (h' := []) rfl rfl ?_
      exact ⟨by rw [show windowsErr l = 1 from by unfold windowsErr; rw [if_neg (by omega)]; exact firstN_err hz (by omega) (by unfold windowErr; rw [if_pos (by omega)]) (by decide)], rfl⟩
     ·skip
      replace hc6 := of_decide_eq_false hc6
      refine AWp.skip ?_
      refine nextQ_normal ?_
      by_cases hs7 : (0 : Int) < ((i : Nat) : Int)
      ·skip
       first | refine AWp.cast (show (mk [(0, (.p (.sl false 2 (l.map D.Window.cells)))), (3, (vI ((i : Nat) : Int))), (39, (vB (decide ((604800 : Int) < ((nth l i).To)))))] []) = (mk [(0, (.p (.sl false 2 (l.map D.Window.cells)))), (3, (vI ((i : Nat) : Int))), (39, (vB false))] []) from by rw [(decide_eq_false hc6)]) ?_ | skip
       refine AWp.s_dreg hGn hGk (by kernel_rfl) [.a, .m (some 41) ⟨[(40, (vI ((i : Nat) : Int)))], [], (vB true), [], []⟩, .a, .a, .a, .m (some 45) ⟨[(43, a'1), (44, (vI ((i : Nat) : Int))), (42, (vB true))], [], (.eptr [(pI ((nth l i).From)), (pI ((nth l i).To))]), [], []⟩, .a, .a, .a, .a, .m (some 50) ⟨[(49, (vI ((i : Nat) : Int))), (42, (vB true))], [], (vI ((i - 1 : Nat) : Int)), [], []⟩, .m (some 51) ⟨[(48, a'1), (50, (vI ((i - 1 : Nat) : Int))), (42, (vB true))], [], (.eptr [(pI ((nth l (i - 1)).From)), (pI ((nth l (i - 1)).To))]), [], []⟩, .a, .a, .a, .a] ⟨StepOK.p rfl rfl rfl (OpOK.gtr rfl rfl rfl (decide_eq_true hs7)),
        StepOK.g rfl rfl rfl rfl rfl (by simp) (OpOK.indexP (e := 77) rfl (by kernel_rfl) (by kernel_rfl) rfl rfl rfl (map_nth (by omega))),
        StepOK.g rfl rfl rfl rfl rfl (by simp) (OpOK.sub rfl rfl rfl (by rw [IntWalk.i64_in _ ⟨by omega, by omega⟩]; omega)),
        StepOK.g rfl rfl rfl rfl rfl (by simp) (OpOK.indexP (e := 77) rfl (by kernel_rfl) (by kernel_rfl) rfl rfl rfl (map_nth (by omega))), trivial⟩ [(0, a'1), (3, (vI ((i : Nat) : Int))), (55, (vB (decide (((nth l i).From) < ((nth l (i - 1)).To)))))] [] (by kernel_rfl) (by kernel_rfl) (by kernel_rfl) ?_
       refine AWp.cond (decide (((nth l i).From) < ((nth l (i - 1)).To))) rfl (fun hc8 => ?_) (fun hc8 => ?_)
       ·skip
        replace hc8 := of_decide_eq_true hc8
        refine AWp.s_reg hGn hGk (aa 1) (Man.aa _ _) [(2, (vI 6))] [] (by kernel_rfl) (by kernel_rfl) ?_
        refine AWp.ret ?_
        refine blockQ_ret ?_
        refine nextQ_ret ?_
        refine nextQ_ret ?_
        refine blockQ_ret ?_
        refine nextQ_ret ?_
        refine fin_of (.inr rfl) (v := (vI 6)) (Res.tmp rfl rfl) (h' := []) rfl rfl ?_
        exact ⟨by rw [show windowsErr l = 6 from by unfold windowsErr; rw [if_neg (by omega)]; exact firstN_err hz (by omega) (by unfold windowErr; rw [if_neg (by omega), if_pos (by omega)]) (by decide)], rfl⟩
       ·skip
        replace hc8 := of_decide_eq_false hc8
        refine AWp.skip ?_
        refine blockQ_normal ?_
        refine nextQ_normal ?_
        refine AWp.reg' hGn hGk [.a, .m (some 12) ⟨[(11, (vI ((i : Nat) : Int)))], [], (vI ((i + 1 : Nat) : Int)), [], []⟩, .a] ⟨StepOK.p rfl rfl rfl (OpOK.add rfl rfl rfl (by rw [IntWalk.i64_in _ ⟨by omega, by omega⟩]; omega)), trivial⟩ [(0, a'1), (3, (vI ((i + 1 : Nat) : Int)))] [] (by kernel_rfl) (by kernel_rfl) ?_
        refine nextQ_normal ⟨_, ?_, (i + 1), rfl, (by omega), (firstN_step hz (by unfold windowErr; rw [if_neg (by omega), if_neg (by omega)])), rfl⟩
        · omega
      ·skip
       first | refine AWp.cast (show (mk [(0, (.p (.sl false 2 (l.map D.Window.cells)))), (3, (vI ((i : Nat) : Int))), (39, (vB (decide ((604800 : Int) < ((nth l i).To)))))] []) = (mk [(0, (.p (.sl false 2 (l.map D.Window.cells)))), (3, (vI ((i : Nat) : Int))), (39, (vB false))] []) from by rw [(decide_eq_false hc6)]) ?_ | skip
       refine AWp.s_dreg hGn hGk (by kernel_rfl) [.a, .m (some 41) ⟨[(40, (vI ((i : Nat) : Int)))], [], (vB false), [], []⟩, .a, .a, .a, .a, .a, .a, .a, .a, .a, .a, .a, .a, .a, .a] ⟨StepOK.p rfl rfl rfl (OpOK.gtr rfl rfl rfl (decide_eq_false hs7)), trivial⟩ [(0, a'1), (3, (vI ((i : Nat) : Int))), (55, (vB false))] [] (by kernel_rfl) (by kernel_rfl) (by kernel_rfl) ?_
       refine AWp.cond_false rfl ?_
       refine AWp.skip ?_
       refine blockQ_normal ?_
       refine nextQ_normal ?_
       refine AWp.reg' hGn hGk [.a, .m (some 12) ⟨[(11, (vI ((i : Nat) : Int)))], [], (vI ((i + 1 : Nat) : Int)), [], []⟩, .a] ⟨StepOK.p rfl rfl rfl (OpOK.add rfl rfl rfl (by rw [IntWalk.i64_in _ ⟨by omega, by omega⟩]; omega)), trivial⟩ [(0, a'1), (3, (vI ((i + 1 : Nat) : Int)))] [] (by kernel_rfl) (by kernel_rfl) ?_
       refine nextQ_normal ⟨_, ?_, (i + 1), rfl, (by omega), (firstN_step hz (by unfold windowErr; rw [if_neg (by omega), if_neg (by omega)])), rfl⟩
       · omega
  ·skip
   replace hc3 := of_decide_eq_false hc3
   refine AWp.weaken (mk [] []) (Weak.sub' hGk (by kernel_rfl)) ?_
   refine AWp.exit ?_
   refine nextQ_exit ?_
   refine nextQ_exit ?_
   refine blockQ_exit ?_
   refine nextQ_normal ?_
   refine AWp.s_reg hGn hGk (aa 1) (Man.aa _ _) [(2, (vI 0))] [] (by kernel_rfl) (by kernel_rfl) ?_
   refine AWp.ret ?_
   refine fin_of (.inr rfl) (v := (vI 0)) (Res.tmp rfl rfl) (h' := []) rfl rfl ?_
   exact ⟨by rw [show windowsErr l = 0 from by unfold windowsErr; rw [if_neg (by omega), show l.length = i by omega]; exact hz], rfl⟩
theorem r08_name2000 (l : List ByteArray) (i : Nat) (h : SeenOK l i) (hl : l.length ≤ 1000) :
    SpecIs Tryz.prog 123 [(.own 2000 ((l.map D.cStr).length)), (vI ((i : Nat) : Int))] [(2000, (.arr 1 (l.map D.cStr)))] (vI 0) [(2000, (.arr 1 (l.map D.cStr)))] := by
 refine Spec.intro Tryz.func123 rfl (by kernel_rfl) ?_
 intro Γ hGn hGk
 replace hGn : Γ.n = 26 := hGn
 replace hGk : Γ.names = [2000] := hGk
 obtain ⟨hi, hok, hne⟩ := h
 let a'1 : AV := (.own 2000 ((l.map D.cStr).length))
 refine AWp.weaken (mk [(0, a'1), (1, (vI ((i : Nat) : Int)))] [(2000, (.arr 1 (l.map D.cStr)))]) (Weak.sub' hGk (by kernel_rfl)) ?_
 refine AWp.s_reg hGn hGk (aa 1) (Man.aa _ _) [(0, a'1), (1, (vI ((i : Nat) : Int)))] [(2000, (.arr 1 (l.map D.cStr)))] (by kernel_rfl) (by kernel_rfl) ?_
 refine AWp.seq ?_
 refine AWp.s_reg hGn hGk [.a, .a, .m (some 8) ⟨[(6, a'1), (7, (vI ((i : Nat) : Int)))], [(2000, (.arr 1 (l.map D.cStr)))], (.aref 2000 ((l.map D.cStr).length) i 0), [], []⟩, .m (some 9) ⟨[(8, (.aref 2000 ((l.map D.cStr).length) i 0))], [(2000, (.arr 1 (l.map D.cStr)))], (vS (nth l i)), [], []⟩, .m (some 10) ⟨[(9, (vS (nth l i)))], [], (vB true), [], []⟩, .a] ⟨StepOK.p rfl rfl rfl (OpOK.indexOwn (e := 9) rfl (by kernel_rfl) (by kernel_rfl) rfl (Nat.beq_refl _) rfl rfl (by simp only [List.length_map]; omega)),
  StepOK.p rfl rfl rfl (OpOK.loadElem rfl rfl (by kernel_rfl) (Nat.beq_refl _) (map_nth (by omega)) rfl),
  StepOK.p rfl rfl rfl (OpOK.call rfl (by kernel_rfl) rfl (by have hq := (r06_Name (nth l i)); rw [hok] at hq; exact hq) (by kernel_rfl)), trivial⟩ [(0, a'1), (1, (vI ((i : Nat) : Int))), (11, (vB false))] [(2000, (.arr 1 (l.map D.cStr)))] (by kernel_rfl) (by kernel_rfl) ?_
 refine AWp.cond_false rfl ?_
 refine AWp.skip ?_
 refine nextQ_normal ?_
 refine AWp.seq ?_
 refine AWp.s_reg hGn hGk (aa 1) (Man.aa _ _) [(0, a'1), (1, (vI ((i : Nat) : Int))), (5, (vI 0))] [(2000, (.arr 1 (l.map D.cStr)))] (by kernel_rfl) (by kernel_rfl) ?_
 refine AWp.block ?_
 refine AWp.loop (fun m s => ∃ k, s = (mk [(0, (.own 2000 ((l.map D.cStr).length))), (1, (vI ((i : Nat) : Int))), (5, (vI ((k : Nat) : Int)))] [(2000, (.arr 1 (l.map D.cStr)))]) ∧ (k ≤ i) ∧ m = (i - k))
  ⟨_, 0, rfl, (by omega), rfl⟩ ?_
 rintro mm1 s ⟨k, rfl, hk, hmm1⟩
 refine AWp.seq ?_
 refine AWp.s_reg hGn hGk (aa 3) (Man.aa _ _) [(0, a'1), (1, (vI ((i : Nat) : Int))), (5, (vI ((k : Nat) : Int))), (14, (vB (decide (((k : Nat) : Int) < ((i : Nat) : Int)))))] [(2000, (.arr 1 (l.map D.cStr)))] (by kernel_rfl) (by kernel_rfl) ?_
 refine AWp.cond (decide (((k : Nat) : Int) < ((i : Nat) : Int))) rfl (fun hc2 => ?_) (fun hc2 => ?_)
 ·skip
  replace hc2 := of_decide_eq_true hc2
  refine AWp.skip ?_
  refine nextQ_normal ?_
  refine AWp.seq ?_
  refine AWp.block ?_
  refine AWp.s_dreg hGn hGk (by kernel_rfl) [.a, .a, .m (some 19) ⟨[(17, a'1), (18, (vI ((k : Nat) : Int)))], [(2000, (.arr 1 (l.map D.cStr)))], (.aref 2000 ((l.map D.cStr).length) k 0), [], []⟩, .m (some 20) ⟨[(19, (.aref 2000 ((l.map D.cStr).length) k 0))], [(2000, (.arr 1 (l.map D.cStr)))], (vS (nth l k)), [], []⟩, .a, .a, .m (some 23) ⟨[(21, a'1), (22, (vI ((i : Nat) : Int)))], [(2000, (.arr 1 (l.map D.cStr)))], (.aref 2000 ((l.map D.cStr).length) i 0), [], []⟩, .m (some 24) ⟨[(23, (.aref 2000 ((l.map D.cStr).length) i 0))], [(2000, (.arr 1 (l.map D.cStr)))], (vS (nth l i)), [], []⟩, .m (some 25) ⟨[(20, (vS (nth l k))), (24, (vS (nth l i)))], [], (vB false), [], []⟩] ⟨StepOK.p rfl rfl rfl (OpOK.indexOwn (e := 9) rfl (by kernel_rfl) (by kernel_rfl) rfl (Nat.beq_refl _) rfl rfl (by simp only [List.length_map]; omega)),
   StepOK.p rfl rfl rfl (OpOK.loadElem rfl rfl (by kernel_rfl) (Nat.beq_refl _) (map_nth (by omega)) rfl),
   StepOK.p rfl rfl rfl (OpOK.indexOwn (e := 9) rfl (by kernel_rfl) (by kernel_rfl) rfl (Nat.beq_refl _) rfl rfl (by simp only [List.length_map]; omega)),
   StepOK.p rfl rfl rfl (OpOK.loadElem rfl rfl (by kernel_rfl) (Nat.beq_refl _) (map_nth (by omega)) rfl),
   StepOK.p rfl rfl rfl (OpOK.eqlS rfl rfl rfl (decide_eq_false (hne k (by omega)))), trivial⟩ [(0, a'1), (1, (vI ((i : Nat) : Int))), (5, (vI ((k : Nat) : Int))), (25, (vB false))] [(2000, (.arr 1 (l.map D.cStr)))] (by kernel_rfl) (by kernel_rfl) (by kernel_rfl) ?_
  refine AWp.cond_false rfl ?_
  refine AWp.skip ?_
  refine blockQ_normal ?_
  refine nextQ_normal ?_
  refine AWp.reg' hGn hGk [.a, .m (some 16) ⟨[(15, (vI ((k : Nat) : Int)))], [], (vI ((k + 1 : Nat) : Int)), [], []⟩, .a] ⟨StepOK.p rfl rfl rfl (OpOK.add rfl rfl rfl (by rw [IntWalk.i64_in _ ⟨by omega, by omega⟩]; omega)), trivial⟩ [(0, a'1), (1, (vI ((i : Nat) : Int))), (5, (vI ((k + 1 : Nat) : Int)))] [(2000, (.arr 1 (l.map D.cStr)))] (by kernel_rfl) (by kernel_rfl) ?_
  refine nextQ_normal ⟨_, ?_, (k + 1), rfl, (by omega), rfl⟩
  · omega
 ·skip
  replace hc2 := of_decide_eq_false hc2
  refine AWp.weaken (mk [] [(2000, (.arr 1 (l.map D.cStr)))]) (Weak.sub' hGk (by kernel_rfl)) ?_
  refine AWp.exit ?_
  refine nextQ_exit ?_
  refine nextQ_exit ?_
  refine blockQ_exit ?_
  refine nextQ_normal ?_
  refine AWp.s_reg hGn hGk (aa 1) (Man.aa _ _) [(4, (vI 0))] [(2000, (.arr 1 (l.map D.cStr)))] (by kernel_rfl) (by kernel_rfl) ?_
  refine AWp.ret ?_
  refine fin_of (.inr rfl) (v := (vI 0)) (Res.tmp rfl rfl) (h' := [(2000, (.arr 1 (l.map D.cStr)))]) rfl rfl ?_
  exact ⟨rfl, rfl⟩
theorem r08_name2001 (l : List ByteArray) (i : Nat) (h : SeenOK l i) (hl : l.length ≤ 1000) :
    SpecIs Tryz.prog 123 [(.own 2001 ((l.map D.cStr).length)), (vI ((i : Nat) : Int))] [(2001, (.arr 1 (l.map D.cStr)))] (vI 0) [(2001, (.arr 1 (l.map D.cStr)))] := by
 refine Spec.intro Tryz.func123 rfl (by kernel_rfl) ?_
 intro Γ hGn hGk
 replace hGn : Γ.n = 26 := hGn
 replace hGk : Γ.names = [2001] := hGk
 obtain ⟨hi, hok, hne⟩ := h
 let a'1 : AV := (.own 2001 ((l.map D.cStr).length))
 refine AWp.weaken (mk [(0, a'1), (1, (vI ((i : Nat) : Int)))] [(2001, (.arr 1 (l.map D.cStr)))]) (Weak.sub' hGk (by kernel_rfl)) ?_
 refine AWp.s_reg hGn hGk (aa 1) (Man.aa _ _) [(0, a'1), (1, (vI ((i : Nat) : Int)))] [(2001, (.arr 1 (l.map D.cStr)))] (by kernel_rfl) (by kernel_rfl) ?_
 refine AWp.seq ?_
 refine AWp.s_reg hGn hGk [.a, .a, .m (some 8) ⟨[(6, a'1), (7, (vI ((i : Nat) : Int)))], [(2001, (.arr 1 (l.map D.cStr)))], (.aref 2001 ((l.map D.cStr).length) i 0), [], []⟩, .m (some 9) ⟨[(8, (.aref 2001 ((l.map D.cStr).length) i 0))], [(2001, (.arr 1 (l.map D.cStr)))], (vS (nth l i)), [], []⟩, .m (some 10) ⟨[(9, (vS (nth l i)))], [], (vB true), [], []⟩, .a] ⟨StepOK.p rfl rfl rfl (OpOK.indexOwn (e := 9) rfl (by kernel_rfl) (by kernel_rfl) rfl (Nat.beq_refl _) rfl rfl (by simp only [List.length_map]; omega)),
  StepOK.p rfl rfl rfl (OpOK.loadElem rfl rfl (by kernel_rfl) (Nat.beq_refl _) (map_nth (by omega)) rfl),
  StepOK.p rfl rfl rfl (OpOK.call rfl (by kernel_rfl) rfl (by have hq := (r06_Name (nth l i)); rw [hok] at hq; exact hq) (by kernel_rfl)), trivial⟩ [(0, a'1), (1, (vI ((i : Nat) : Int))), (11, (vB false))] [(2001, (.arr 1 (l.map D.cStr)))] (by kernel_rfl) (by kernel_rfl) ?_
 refine AWp.cond_false rfl ?_
 refine AWp.skip ?_
 refine nextQ_normal ?_
 refine AWp.seq ?_
 refine AWp.s_reg hGn hGk (aa 1) (Man.aa _ _) [(0, a'1), (1, (vI ((i : Nat) : Int))), (5, (vI 0))] [(2001, (.arr 1 (l.map D.cStr)))] (by kernel_rfl) (by kernel_rfl) ?_
 refine AWp.block ?_
 refine AWp.loop (fun m s => ∃ k, s = (mk [(0, (.own 2001 ((l.map D.cStr).length))), (1, (vI ((i : Nat) : Int))), (5, (vI ((k : Nat) : Int)))] [(2001, (.arr 1 (l.map D.cStr)))]) ∧ (k ≤ i) ∧ m = (i - k))
  ⟨_, 0, rfl, (by omega), rfl⟩ ?_
 rintro mm1 s ⟨k, rfl, hk, hmm1⟩
 refine AWp.seq ?_
 refine AWp.s_reg hGn hGk (aa 3) (Man.aa _ _) [(0, a'1), (1, (vI ((i : Nat) : Int))), (5, (vI ((k : Nat) : Int))), (14, (vB (decide (((k : Nat) : Int) < ((i : Nat) : Int)))))] [(2001, (.arr 1 (l.map D.cStr)))] (by kernel_rfl) (by kernel_rfl) ?_
 refine AWp.cond (decide (((k : Nat) : Int) < ((i : Nat) : Int))) rfl (fun hc2 => ?_) (fun hc2 => ?_)
 ·skip
  replace hc2 := of_decide_eq_true hc2
  refine AWp.skip ?_
  refine nextQ_normal ?_
  refine AWp.seq ?_
  refine AWp.block ?_
  refine AWp.s_dreg hGn hGk (by kernel_rfl) [.a, .a, .m (some 19) ⟨[(17, a'1), (18, (vI ((k : Nat) : Int)))], [(2001, (.arr 1 (l.map D.cStr)))], (.aref 2001 ((l.map D.cStr).length) k 0), [], []⟩, .m (some 20) ⟨[(19, (.aref 2001 ((l.map D.cStr).length) k 0))], [(2001, (.arr 1 (l.map D.cStr)))], (vS (nth l k)), [], []⟩, .a, .a, .m (some 23) ⟨[(21, a'1), (22, (vI ((i : Nat) : Int)))], [(2001, (.arr 1 (l.map D.cStr)))], (.aref 2001 ((l.map D.cStr).length) i 0), [], []⟩, .m (some 24) ⟨[(23, (.aref 2001 ((l.map D.cStr).length) i 0))], [(2001, (.arr 1 (l.map D.cStr)))], (vS (nth l i)), [], []⟩, .m (some 25) ⟨[(20, (vS (nth l k))), (24, (vS (nth l i)))], [], (vB false), [], []⟩] ⟨StepOK.p rfl rfl rfl (OpOK.indexOwn (e := 9) rfl (by kernel_rfl) (by kernel_rfl) rfl (Nat.beq_refl _) rfl rfl (by simp only [List.length_map]; omega)),
   StepOK.p rfl rfl rfl (OpOK.loadElem rfl rfl (by kernel_rfl) (Nat.beq_refl _) (map_nth (by omega)) rfl),
   StepOK.p rfl rfl rfl (OpOK.indexOwn (e := 9) rfl (by kernel_rfl) (by kernel_rfl) rfl (Nat.beq_refl _) rfl rfl (by simp only [List.length_map]; omega)),
   StepOK.p rfl rfl rfl (OpOK.loadElem rfl rfl (by kernel_rfl) (Nat.beq_refl _) (map_nth (by omega)) rfl),
   StepOK.p rfl rfl rfl (OpOK.eqlS rfl rfl rfl (decide_eq_false (hne k (by omega)))), trivial⟩ [(0, a'1), (1, (vI ((i : Nat) : Int))), (5, (vI ((k : Nat) : Int))), (25, (vB false))] [(2001, (.arr 1 (l.map D.cStr)))] (by kernel_rfl) (by kernel_rfl) (by kernel_rfl) ?_
  refine AWp.cond_false rfl ?_
  refine AWp.skip ?_
  refine blockQ_normal ?_
  refine nextQ_normal ?_
  refine AWp.reg' hGn hGk [.a, .m (some 16) ⟨[(15, (vI ((k : Nat) : Int)))], [], (vI ((k + 1 : Nat) : Int)), [], []⟩, .a] ⟨StepOK.p rfl rfl rfl (OpOK.add rfl rfl rfl (by rw [IntWalk.i64_in _ ⟨by omega, by omega⟩]; omega)), trivial⟩ [(0, a'1), (1, (vI ((i : Nat) : Int))), (5, (vI ((k + 1 : Nat) : Int)))] [(2001, (.arr 1 (l.map D.cStr)))] (by kernel_rfl) (by kernel_rfl) ?_
  refine nextQ_normal ⟨_, ?_, (k + 1), rfl, (by omega), rfl⟩
  · omega
 ·skip
  replace hc2 := of_decide_eq_false hc2
  refine AWp.weaken (mk [] [(2001, (.arr 1 (l.map D.cStr)))]) (Weak.sub' hGk (by kernel_rfl)) ?_
  refine AWp.exit ?_
  refine nextQ_exit ?_
  refine nextQ_exit ?_
  refine blockQ_exit ?_
  refine nextQ_normal ?_
  refine AWp.s_reg hGn hGk (aa 1) (Man.aa _ _) [(4, (vI 0))] [(2001, (.arr 1 (l.map D.cStr)))] (by kernel_rfl) (by kernel_rfl) ?_
  refine AWp.ret ?_
  refine fin_of (.inr rfl) (v := (vI 0)) (Res.tmp rfl rfl) (h' := [(2001, (.arr 1 (l.map D.cStr)))]) rfl rfl ?_
  exact ⟨rfl, rfl⟩
theorem r08_zones (c : D.Config) (h : CfgOK c) :
    SpecIs Tryz.prog 83 [(.agg [(.p (.sl false 3 (c.Zones.map D.Zone.cells))), (.p (.sl false 6 (c.People.map D.Person.cells))), (.p (.sl false 3 (c.Calendars.map D.Calendar.cells))), (.p (.sl false 3 (c.Schedules.map D.Schedule.cells)))])] [] (vI 0) [] := by
 refine Spec.intro Tryz.func83 rfl (by kernel_rfl) ?_
 intro Γ hGn hGk
 replace hGn : Γ.n = 44 := hGn
 replace hGk : Γ.names = [] := hGk
 have hz1 := h.zlen
 have hzo := h.zoff
 let a'1 : AV := (.p (.sl false 3 (c.Zones.map D.Zone.cells)))
 let a'2 : AV := (.p (.sl false 6 (c.People.map D.Person.cells)))
 let a'3 : AV := (.p (.sl false 3 (c.Calendars.map D.Calendar.cells)))
 let a'4 : AV := (.p (.sl false 3 (c.Schedules.map D.Schedule.cells)))
 refine AWp.weaken (mk [(0, (.agg [a'1, a'2, a'3, a'4]))] []) (Weak.sub' hGk (by kernel_rfl)) ?_
 let a'5 : AO := (.box [a'1, a'2, a'3, a'4])
 refine AWp.s_reg hGn hGk (aa 2) (Man.aa _ _) [(1, (.ref 1001 0))] [(1001, a'5)] (by kernel_rfl) (by kernel_rfl) ?_
 refine AWp.s_reg hGn hGk (aa 1) (Man.aa _ _) [(1, (.ref 1001 0)), (3, (.p (.sl true 0 [])))] [(1001, a'5)] (by kernel_rfl) (by kernel_rfl) ?_
 refine AWp.seq ?_
 refine AWp.s_reg hGn hGk (aa 1) (Man.aa _ _) [(1, (.ref 1001 0)), (3, (.p (.sl true 0 []))), (4, (vI 0))] [(1001, a'5)] (by kernel_rfl) (by kernel_rfl) ?_
 refine AWp.block ?_
 refine AWp.weaken (mk [(1, (.ref 1001 0)), (3, (.own 2000 0)), (4, (vI 0))] [(2000, (.arr 1 [])), (1001, a'5)]) (Weak.thaw (t := 3) (es0 := 0) (by kernel_rfl) rfl (by kernel_rfl) (by kernel_rfl) (by kernel_rfl)) ?_
 refine AWp.loop (fun m s => ∃ i, s = (mk [(1, (.ref 1001 0)), (3, (.own 2000 (((([(nth c.Zones 0).Name] : List ByteArray).take i).map D.cStr).length))), (4, (vI ((i : Nat) : Int)))] [(2000, (.arr 1 ((([(nth c.Zones 0).Name] : List ByteArray).take i).map D.cStr))), (1001, (.box [(.p (.sl false 3 (c.Zones.map D.Zone.cells))), (.p (.sl false 6 (c.People.map D.Person.cells))), (.p (.sl false 3 (c.Calendars.map D.Calendar.cells))), (.p (.sl false 3 (c.Schedules.map D.Schedule.cells)))]))]) ∧ (i ≤ c.Zones.length) ∧ m = (c.Zones.length - i))
  ⟨_, 0, rfl, (by omega), rfl⟩ ?_
 rintro mm1 s ⟨i, rfl, hi, hmm1⟩
 refine AWp.seq ?_
 refine AWp.s_reg hGn hGk [.a, .a, .a, .m (some 9) ⟨[(8, a'1)], [], (vI ((c.Zones.length : Nat) : Int)), [], []⟩, .a] ⟨StepOK.p rfl rfl rfl (OpOK.lenP (e := 72) rfl rfl (by kernel_rfl) rfl (by rw [List.length_map])), trivial⟩ [(1, (.ref 1001 0)), (3, (.own 2000 (((([(nth c.Zones 0).Name] : List ByteArray).take i).map D.cStr).length))), (4, (vI ((i : Nat) : Int))), (10, (vB (decide (((i : Nat) : Int) < ((c.Zones.length : Nat) : Int)))))] [(2000, (.arr 1 ((([(nth c.Zones 0).Name] : List ByteArray).take i).map D.cStr))), (1001, a'5)] (by kernel_rfl) (by kernel_rfl) ?_
 refine AWp.cond (decide (((i : Nat) : Int) < ((c.Zones.length : Nat) : Int))) rfl (fun hc2 => ?_) (fun hc2 => ?_)
 ·skip
  replace hc2 := of_decide_eq_true hc2
  refine AWp.skip ?_
  refine nextQ_normal ?_
  refine AWp.seq ?_
  refine AWp.block ?_
  have hi0 : i = 0 := by omega
  let a'6 : AV := (.own 2000 (((([(nth c.Zones 0).Name] : List ByteArray).take (i + 1)).map D.cStr).length))
  let a'7 : AO := (.arr 1 ((([(nth c.Zones 0).Name] : List ByteArray).take (i + 1)).map D.cStr))
  refine AWp.s_reg hGn hGk [.a, .a, .a, .a, .m (some 17) ⟨[(15, a'1), (16, (vI ((i : Nat) : Int)))], [], (.eptr [(pS ((nth c.Zones i).Name)), (pI ((nth c.Zones i).Offset)), (.sl false 7 (((nth c.Zones i).Rules).map D.YearRule.cells))]), [], []⟩, .a, .a, .a, .m (some 21) ⟨[(13, (.own 2000 (((([(nth c.Zones 0).Name] : List ByteArray).take i).map D.cStr).length))), (20, (.p (.sl true 1 [[(pS ((nth c.Zones i).Name))]])))], [(2000, (.arr 1 ((([(nth c.Zones 0).Name] : List ByteArray).take i).map D.cStr)))], a'6, [(2000, a'7)], []⟩, .a] ⟨StepOK.p rfl rfl rfl (OpOK.indexP (e := 72) rfl (by kernel_rfl) (by kernel_rfl) rfl rfl rfl (map_nth (by omega))),
   StepOK.p rfl rfl rfl (OpOK.appendOwn (e := 9) (bytes := 16) rfl rfl (by kernel_rfl) (by kernel_rfl) rfl (Nat.beq_refl _) rfl (names_next (by simp only [List.length_cons, List.length_nil]; omega) (by rw [hi0]; rfl)) rfl (by simp only [List.length_map, List.length_take, List.length_cons, List.length_nil]; omega) (by simp only [List.length_map, List.length_take, List.length_cons, List.length_nil]; omega)), trivial⟩ [(1, (.ref 1001 0)), (3, a'6), (4, (vI ((i : Nat) : Int)))] [(2000, a'7), (1001, a'5)] (by kernel_rfl) (by kernel_rfl) ?_
  refine AWp.seq ?_
  refine AWp.s_reg hGn hGk [.a, .a, .m (some 24) ⟨[(22, a'6), (23, (vI ((i : Nat) : Int)))], [(2000, a'7)], (vI 0), [(2000, a'7)], []⟩, .a] ⟨StepOK.p rfl rfl rfl (OpOK.call rfl (by kernel_rfl) rfl (r08_name2000 (([(nth c.Zones 0).Name] : List ByteArray).take (i + 1)) i (seen_one (by rw [h.zname]; exact nameOK_z) (by omega)) (by simp only [List.length_take]; omega)) (by kernel_rfl)), trivial⟩ [(1, (.ref 1001 0)), (3, a'6), (4, (vI ((i : Nat) : Int))), (5, (vI 0))] [(2000, a'7), (1001, a'5)] (by kernel_rfl) (by kernel_rfl) ?_
  refine AWp.s_reg hGn hGk (aa 2) (Man.aa _ _) [(1, (.ref 1001 0)), (3, a'6), (4, (vI ((i : Nat) : Int))), (5, (vI 0)), (26, (vB false))] [(2000, a'7), (1001, a'5)] (by kernel_rfl) (by kernel_rfl) ?_
  refine AWp.cond_false rfl ?_
  refine AWp.skip ?_
  refine nextQ_normal ?_
  refine AWp.s_reg hGn hGk [.a, .a, .a, .m (some 31) ⟨[(29, a'1), (30, (vI ((i : Nat) : Int)))], [], (.eptr [(pS ((nth c.Zones i).Name)), (pI ((nth c.Zones i).Offset)), (.sl false 7 (((nth c.Zones i).Rules).map D.YearRule.cells))]), [], []⟩, .a, .m (some 33) ⟨[(32, (.agg [(vS ((nth c.Zones i).Name)), (vI ((nth c.Zones i).Offset)), (.p (.sl false 7 (((nth c.Zones i).Rules).map D.YearRule.cells)))]))], [], (vI 0), [], []⟩, .a, .a, .a, .a, .a, .m (some 39) ⟨[(37, a'1), (38, (vI ((i : Nat) : Int))), (35, (vB false))], [], (.eptr [(pS ((nth c.Zones i).Name)), (pI ((nth c.Zones i).Offset)), (.sl false 7 (((nth c.Zones i).Rules).map D.YearRule.cells))]), [], []⟩, .a, .m (some 41) ⟨[(40, (.agg [(vS ((nth c.Zones i).Name)), (vI ((nth c.Zones i).Offset)), (.p (.sl false 7 (((nth c.Zones i).Rules).map D.YearRule.cells)))])), (35, (vB false))], [], (vB true), [], []⟩, .a, .a] ⟨StepOK.p rfl rfl rfl (OpOK.indexP (e := 72) rfl (by kernel_rfl) (by kernel_rfl) rfl rfl rfl (map_nth (by omega))),
   StepOK.p rfl rfl rfl (OpOK.call rfl (by kernel_rfl) rfl (r04_Check (nth c.Zones i) (by rw [hi0]; exact h.zrules) (by rw [hi0]; omega)) (by kernel_rfl)),
   StepOK.g rfl rfl rfl rfl rfl (by simp) (OpOK.indexP (e := 72) rfl (by kernel_rfl) (by kernel_rfl) rfl rfl rfl (map_nth (by omega))),
   StepOK.g rfl rfl rfl rfl rfl (by simp) (OpOK.call rfl (by kernel_rfl) rfl (r08_minutes (nth c.Zones i) (by rw [hi0]; exact h.zrules) (by rw [hi0]; omega)) (by kernel_rfl)), trivial⟩ [(1, (.ref 1001 0)), (3, a'6), (4, (vI ((i : Nat) : Int))), (43, (vB false))] [(2000, a'7), (1001, a'5)] (by kernel_rfl) (by kernel_rfl) ?_
  refine AWp.cond_false rfl ?_
  refine AWp.skip ?_
  refine blockQ_normal ?_
  refine nextQ_normal ?_
  refine AWp.reg' hGn hGk [.a, .m (some 12) ⟨[(11, (vI ((i : Nat) : Int)))], [], (vI ((i + 1 : Nat) : Int)), [], []⟩, .a] ⟨StepOK.p rfl rfl rfl (OpOK.add rfl rfl rfl (by rw [IntWalk.i64_in _ ⟨by omega, by omega⟩]; omega)), trivial⟩ [(1, (.ref 1001 0)), (3, a'6), (4, (vI ((i + 1 : Nat) : Int)))] [(2000, a'7), (1001, a'5)] (by kernel_rfl) (by kernel_rfl) ?_
  refine nextQ_normal ⟨_, ?_, (i + 1), rfl, (by omega), rfl⟩
  · omega
 ·skip
  replace hc2 := of_decide_eq_false hc2
  refine AWp.weaken (mk [] []) (Weak.sub' hGk (by kernel_rfl)) ?_
  refine AWp.exit ?_
  refine nextQ_exit ?_
  refine nextQ_exit ?_
  refine blockQ_exit ?_
  refine nextQ_normal ?_
  refine AWp.s_reg hGn hGk (aa 1) (Man.aa _ _) [(2, (vI 0))] [] (by kernel_rfl) (by kernel_rfl) ?_
  refine AWp.ret ?_
  refine fin_of (.inr rfl) (v := (vI 0)) (Res.tmp rfl rfl) (h' := []) rfl rfl ?_
  exact ⟨rfl, rfl⟩
theorem r08_people (c : D.Config) (h : CfgOK c) :
    SpecIs Tryz.prog 84 [(.agg [(.p (.sl false 3 (c.Zones.map D.Zone.cells))), (.p (.sl false 6 (c.People.map D.Person.cells))), (.p (.sl false 3 (c.Calendars.map D.Calendar.cells))), (.p (.sl false 3 (c.Schedules.map D.Schedule.cells)))])] [] (vI 0) [] := by
 refine Spec.intro Tryz.func84 rfl (by kernel_rfl) ?_
 intro Γ hGn hGk
 replace hGn : Γ.n = 58 := hGn
 replace hGk : Γ.names = [] := hGk
 have hz1 := h.zlen
 have hp4 := h.plen
 let a'1 : AV := (.p (.sl false 3 (c.Zones.map D.Zone.cells)))
 let a'2 : AV := (.p (.sl false 6 (c.People.map D.Person.cells)))
 let a'3 : AV := (.p (.sl false 3 (c.Calendars.map D.Calendar.cells)))
 let a'4 : AV := (.p (.sl false 3 (c.Schedules.map D.Schedule.cells)))
 refine AWp.weaken (mk [(0, (.agg [a'1, a'2, a'3, a'4]))] []) (Weak.sub' hGk (by kernel_rfl)) ?_
 let a'5 : AO := (.box [a'1, a'2, a'3, a'4])
 refine AWp.s_reg hGn hGk (aa 2) (Man.aa _ _) [(1, (.ref 1001 0))] [(1001, a'5)] (by kernel_rfl) (by kernel_rfl) ?_
 refine AWp.s_reg hGn hGk (aa 1) (Man.aa _ _) [(1, (.ref 1001 0)), (3, (.p (.sl true 0 [])))] [(1001, a'5)] (by kernel_rfl) (by kernel_rfl) ?_
 refine AWp.seq ?_
 refine AWp.s_reg hGn hGk (aa 1) (Man.aa _ _) [(1, (.ref 1001 0)), (3, (.p (.sl true 0 []))), (4, (vI 0))] [(1001, a'5)] (by kernel_rfl) (by kernel_rfl) ?_
 refine AWp.block ?_
 refine AWp.weaken (mk [(1, (.ref 1001 0)), (3, (.own 2000 0)), (4, (vI 0))] [(2000, (.arr 1 [])), (1001, a'5)]) (Weak.thaw (t := 3) (es0 := 0) (by kernel_rfl) rfl (by kernel_rfl) (by kernel_rfl) (by kernel_rfl)) ?_
 refine AWp.loop (fun m s => ∃ i, s = (mk [(1, (.ref 1001 0)), (3, (.own 2000 ((((crewNames).take i).map D.cStr).length))), (4, (vI ((i : Nat) : Int)))] [(2000, (.arr 1 (((crewNames).take i).map D.cStr))), (1001, (.box [(.p (.sl false 3 (c.Zones.map D.Zone.cells))), (.p (.sl false 6 (c.People.map D.Person.cells))), (.p (.sl false 3 (c.Calendars.map D.Calendar.cells))), (.p (.sl false 3 (c.Schedules.map D.Schedule.cells)))]))]) ∧ (i ≤ c.People.length) ∧ m = (c.People.length - i))
  ⟨_, 0, rfl, (by omega), rfl⟩ ?_
 rintro mm1 s ⟨i, rfl, hi, hmm1⟩
 refine AWp.seq ?_
 let a'6 : AV := (.own 2000 ((((crewNames).take i).map D.cStr).length))
 let a'7 : AO := (.arr 1 (((crewNames).take i).map D.cStr))
 refine AWp.s_reg hGn hGk [.a, .a, .a, .m (some 10) ⟨[(9, a'2)], [], (vI ((c.People.length : Nat) : Int)), [], []⟩, .a] ⟨StepOK.p rfl rfl rfl (OpOK.lenP (e := 75) rfl rfl (by kernel_rfl) rfl (by rw [List.length_map])), trivial⟩ [(1, (.ref 1001 0)), (3, a'6), (4, (vI ((i : Nat) : Int))), (11, (vB (decide (((i : Nat) : Int) < ((c.People.length : Nat) : Int)))))] [(2000, a'7), (1001, a'5)] (by kernel_rfl) (by kernel_rfl) ?_
 refine AWp.cond (decide (((i : Nat) : Int) < ((c.People.length : Nat) : Int))) rfl (fun hc2 => ?_) (fun hc2 => ?_)
 ·skip
  replace hc2 := of_decide_eq_true hc2
  refine AWp.skip ?_
  refine nextQ_normal ?_
  refine AWp.seq ?_
  refine AWp.block ?_
  have hf := h.pfacts (i := i) (by omega)
  obtain ⟨hnm, hzo, ⟨hq, hq2⟩, ⟨hm1, hm2⟩⟩ := h.person i (by omega)
  let a'8 : AV := (.p (.sl false 2 (((nth c.People i).Quiet).map D.Window.cells)))
  let a'9 : AO := (.box [(vS ((nth c.People i).Name)), (vI ((nth c.People i).Zone)), a'8, (vI ((nth c.People i).MaxWeek)), (vI ((nth c.People i).MinRest)), (vB ((nth c.People i).Consent))])
  refine AWp.s_reg hGn hGk [.a, .a, .a, .m (some 17) ⟨[(15, a'2), (16, (vI ((i : Nat) : Int)))], [], (.eptr [(pS ((nth c.People i).Name)), (pI ((nth c.People i).Zone)), (.sl false 2 (((nth c.People i).Quiet).map D.Window.cells)), (pI ((nth c.People i).MaxWeek)), (pI ((nth c.People i).MinRest)), (pB ((nth c.People i).Consent))]), [], []⟩, .a, .a, .a] ⟨StepOK.p rfl rfl rfl (OpOK.indexP (e := 75) rfl (by kernel_rfl) (by kernel_rfl) rfl rfl rfl (map_nth (by omega))), trivial⟩ [(1, (.ref 1001 0)), (3, a'6), (4, (vI ((i : Nat) : Int))), (5, (.ref 1005 0))] [(2000, a'7), (1001, a'5), (1005, a'9)] (by kernel_rfl) (by kernel_rfl) ?_
  let a'10 : AV := (.own 2000 ((((crewNames).take (i + 1)).map D.cStr).length))
  let a'11 : AO := (.arr 1 (((crewNames).take (i + 1)).map D.cStr))
  refine AWp.s_reg hGn hGk [.a, .a, .a, .a, .m (some 23) ⟨[(19, a'6), (22, (.p (.sl true 1 [[(pS ((nth c.People i).Name))]])))], [(2000, a'7)], a'10, [(2000, a'11)], []⟩, .a] ⟨StepOK.p rfl rfl rfl (OpOK.appendOwn (e := 9) (bytes := 16) rfl rfl (by kernel_rfl) (by kernel_rfl) rfl (Nat.beq_refl _) rfl (names_next (show i < 4 by omega) (h.pnm (by omega))) rfl (by simp only [List.length_map, List.length_take, List.length_cons, List.length_nil]; omega) (by simp only [List.length_map, List.length_take, List.length_cons, List.length_nil]; omega)), trivial⟩ [(1, (.ref 1001 0)), (3, a'10), (4, (vI ((i : Nat) : Int))), (5, (.ref 1005 0))] [(2000, a'11), (1001, a'5), (1005, a'9)] (by kernel_rfl) (by kernel_rfl) ?_
  refine AWp.seq ?_
  refine AWp.s_reg hGn hGk [.a, .a, .m (some 26) ⟨[(25, (vS ((nth c.People i).Name)))], [], (vB false), [], []⟩] ⟨StepOK.p rfl rfl rfl (OpOK.eqlS rfl rfl rfl (decide_eq_false hf.2.2.2)), trivial⟩ [(1, (.ref 1001 0)), (3, a'10), (4, (vI ((i : Nat) : Int))), (5, (.ref 1005 0)), (26, (vB false))] [(2000, a'11), (1001, a'5), (1005, a'9)] (by kernel_rfl) (by kernel_rfl) ?_
  refine AWp.cond_false rfl ?_
  refine AWp.skip ?_
  refine nextQ_normal ?_
  refine AWp.seq ?_
  refine AWp.s_reg hGn hGk [.a, .a, .m (some 29) ⟨[(27, a'10), (28, (vI ((i : Nat) : Int)))], [(2000, a'11)], (vI 0), [(2000, a'11)], []⟩, .a] ⟨StepOK.p rfl rfl rfl (OpOK.call rfl (by kernel_rfl) rfl (r08_name2000 ((crewNames).take (i + 1)) i (seen_crew i (by omega)) (by simp only [List.length_take]; omega)) (by kernel_rfl)), trivial⟩ [(1, (.ref 1001 0)), (3, a'10), (4, (vI ((i : Nat) : Int))), (5, (.ref 1005 0)), (6, (vI 0))] [(2000, a'11), (1001, a'5), (1005, a'9)] (by kernel_rfl) (by kernel_rfl) ?_
  refine AWp.s_reg hGn hGk (aa 2) (Man.aa _ _) [(1, (.ref 1001 0)), (3, a'10), (4, (vI ((i : Nat) : Int))), (5, (.ref 1005 0)), (6, (vI 0)), (31, (vB false))] [(2000, a'11), (1001, a'5), (1005, a'9)] (by kernel_rfl) (by kernel_rfl) ?_
  refine AWp.cond_false rfl ?_
  refine AWp.skip ?_
  refine nextQ_normal ?_
  refine AWp.block ?_
  refine AWp.s_reg hGn hGk [.a, .a, .a, .a, .m (some 38) ⟨[(37, a'1)], [], (vI ((c.Zones.length : Nat) : Int)), [], []⟩, .m (some 39) ⟨[(38, (vI ((c.Zones.length : Nat) : Int)))], [], (vI (((c.Zones.length : Nat) : Int) - 1)), [], []⟩, .m (some 40) ⟨[(35, (vI ((nth c.People i).Zone))), (39, (vI (((c.Zones.length : Nat) : Int) - 1)))], [], (vB true), [], []⟩, .a, .a] ⟨StepOK.p rfl rfl rfl (OpOK.lenP (e := 72) rfl rfl (by kernel_rfl) rfl (by rw [List.length_map])),
   StepOK.p rfl rfl rfl (OpOK.sub rfl rfl rfl (IntWalk.i64_in _ ⟨by omega, by omega⟩)),
   StepOK.p rfl rfl rfl (OpOK.call rfl (by kernel_rfl) rfl (by have hq := (r08_in ((nth c.People i).Zone) (0 : Int) (((c.Zones.length : Nat) : Int) - 1)); rw [(inB_true (by omega))] at hq; exact hq) (by kernel_rfl)), trivial⟩ [(1, (.ref 1001 0)), (3, a'10), (4, (vI ((i : Nat) : Int))), (5, (.ref 1005 0)), (33, (vB false))] [(2000, a'11), (1001, a'5), (1005, a'9)] (by kernel_rfl) (by kernel_rfl) ?_
  refine AWp.cond_false rfl ?_
  refine AWp.s_reg hGn hGk [.a, .a, .m (some 45) ⟨[(44, a'8)], [], (vI (windowsErr ((nth c.People i).Quiet))), [], []⟩, .m (some 46) ⟨[(45, (vI (windowsErr ((nth c.People i).Quiet))))], [], (vB false), [], []⟩, .a] ⟨StepOK.p rfl rfl rfl (OpOK.call rfl (by kernel_rfl) rfl (r05_Check ((nth c.People i).Quiet)) (by kernel_rfl)),
   StepOK.p rfl rfl rfl (OpOK.neqI rfl rfl rfl (decide_eq_false (by omega))), trivial⟩ [(1, (.ref 1001 0)), (3, a'10), (4, (vI ((i : Nat) : Int))), (5, (.ref 1005 0)), (42, (vB false))] [(2000, a'11), (1001, a'5), (1005, a'9)] (by kernel_rfl) (by kernel_rfl) ?_
  refine AWp.cond_false rfl ?_
  refine AWp.s_reg hGn hGk [.a, .a, .m (some 50) ⟨[(49, (vI ((nth c.People i).MaxWeek)))], [], (vB true), [], []⟩, .a, .a, .a, .a, .m (some 55) ⟨[(54, (vI ((nth c.People i).MinRest))), (52, (vB false))], [], (vB true), [], []⟩, .a, .a, .a] ⟨StepOK.p rfl rfl rfl (OpOK.call rfl (by kernel_rfl) rfl (r08_hours ((nth c.People i).MaxWeek) (by omega)) (by kernel_rfl)),
   StepOK.g rfl rfl rfl rfl rfl (by simp) (OpOK.call rfl (by kernel_rfl) rfl (r08_hours ((nth c.People i).MinRest) (by omega)) (by kernel_rfl)), trivial⟩ [(1, (.ref 1001 0)), (3, a'10), (4, (vI ((i : Nat) : Int))), (47, (vB false))] [(2000, a'11), (1001, a'5)] (by kernel_rfl) (by kernel_rfl) ?_
  refine AWp.cond_false rfl ?_
  refine AWp.skip ?_
  refine blockQ_normal ?_
  refine blockQ_normal ?_
  refine nextQ_normal ?_
  refine AWp.reg' hGn hGk [.a, .m (some 13) ⟨[(12, (vI ((i : Nat) : Int)))], [], (vI ((i + 1 : Nat) : Int)), [], []⟩, .a] ⟨StepOK.p rfl rfl rfl (OpOK.add rfl rfl rfl (by rw [IntWalk.i64_in _ ⟨by omega, by omega⟩]; omega)), trivial⟩ [(1, (.ref 1001 0)), (3, a'10), (4, (vI ((i + 1 : Nat) : Int)))] [(2000, a'11), (1001, a'5)] (by kernel_rfl) (by kernel_rfl) ?_
  refine nextQ_normal ⟨_, ?_, (i + 1), rfl, (by omega), rfl⟩
  · omega
 ·skip
  replace hc2 := of_decide_eq_false hc2
  refine AWp.weaken (mk [] []) (Weak.sub' hGk (by kernel_rfl)) ?_
  refine AWp.exit ?_
  refine nextQ_exit ?_
  refine nextQ_exit ?_
  refine blockQ_exit ?_
  refine nextQ_normal ?_
  refine AWp.s_reg hGn hGk (aa 1) (Man.aa _ _) [(2, (vI 0))] [] (by kernel_rfl) (by kernel_rfl) ?_
  refine AWp.ret ?_
  refine fin_of (.inr rfl) (v := (vI 0)) (Res.tmp rfl rfl) (h' := []) rfl rfl ?_
  exact ⟨rfl, rfl⟩
theorem r08_cal (c : D.Config) (h : CfgOK c) :
    SpecIs Tryz.prog 85 [(.agg [(.p (.sl false 3 (c.Zones.map D.Zone.cells))), (.p (.sl false 6 (c.People.map D.Person.cells))), (.p (.sl false 3 (c.Calendars.map D.Calendar.cells))), (.p (.sl false 3 (c.Schedules.map D.Schedule.cells)))])] [] (vI 0) [] := by
 refine Spec.intro Tryz.func85 rfl (by kernel_rfl) ?_
 intro Γ hGn hGk
 replace hGn : Γ.n = 78 := hGn
 replace hGk : Γ.names = [] := hGk
 have hcl : c.Calendars.length = 0 := by rw [h.cal]; rfl
 let a'1 : AV := (.p (.sl false 3 (c.Zones.map D.Zone.cells)))
 let a'2 : AV := (.p (.sl false 6 (c.People.map D.Person.cells)))
 let a'3 : AV := (.p (.sl false 3 (c.Calendars.map D.Calendar.cells)))
 let a'4 : AV := (.p (.sl false 3 (c.Schedules.map D.Schedule.cells)))
 refine AWp.weaken (mk [(0, (.agg [a'1, a'2, a'3, a'4]))] []) (Weak.sub' hGk (by kernel_rfl)) ?_
 let a'5 : AO := (.box [a'1, a'2, a'3, a'4])
 refine AWp.s_reg hGn hGk (aa 2) (Man.aa _ _) [(1, (.ref 1001 0))] [(1001, a'5)] (by kernel_rfl) (by kernel_rfl) ?_
 refine AWp.s_reg hGn hGk (aa 1) (Man.aa _ _) [(1, (.ref 1001 0)), (3, (.p (.sl true 0 [])))] [(1001, a'5)] (by kernel_rfl) (by kernel_rfl) ?_
 refine AWp.seq ?_
 refine AWp.s_reg hGn hGk (aa 1) (Man.aa _ _) [(1, (.ref 1001 0)), (3, (.p (.sl true 0 []))), (4, (vI 0))] [(1001, a'5)] (by kernel_rfl) (by kernel_rfl) ?_
 refine AWp.block ?_
 refine AWp.loop (fun m s =>  s = (mk [(1, (.ref 1001 0)), (3, (.p (.sl true 0 []))), (4, (vI 0))] [(1001, (.box [(.p (.sl false 3 (c.Zones.map D.Zone.cells))), (.p (.sl false 6 (c.People.map D.Person.cells))), (.p (.sl false 3 (c.Calendars.map D.Calendar.cells))), (.p (.sl false 3 (c.Schedules.map D.Schedule.cells)))]))]) ∧ m = 0)
  ⟨_, rfl, rfl⟩ ?_
 rintro mm1 s ⟨rfl, hmm1⟩
 refine AWp.seq ?_
 refine AWp.s_reg hGn hGk [.a, .a, .a, .m (some 12) ⟨[(11, a'3)], [], (vI ((c.Calendars.length : Nat) : Int)), [], []⟩, .m (some 13) ⟨[(9, (vI 0)), (12, (vI ((c.Calendars.length : Nat) : Int)))], [], (vB false), [], []⟩] ⟨StepOK.p rfl rfl rfl (OpOK.lenP (e := 134) rfl rfl (by kernel_rfl) rfl (by rw [List.length_map])),
  StepOK.p rfl rfl rfl (OpOK.lss rfl rfl rfl (decide_eq_false (by omega))), trivial⟩ [(1, (.ref 1001 0)), (3, (.p (.sl true 0 []))), (4, (vI 0)), (13, (vB false))] [(1001, a'5)] (by kernel_rfl) (by kernel_rfl) ?_
 refine AWp.cond_false rfl ?_
 refine AWp.weaken (mk [] []) (Weak.sub' hGk (by kernel_rfl)) ?_
 refine AWp.exit ?_
 refine nextQ_exit ?_
 refine nextQ_exit ?_
 refine blockQ_exit ?_
 refine nextQ_normal ?_
 refine AWp.s_reg hGn hGk (aa 1) (Man.aa _ _) [(2, (vI 0))] [] (by kernel_rfl) (by kernel_rfl) ?_
 refine AWp.ret ?_
 refine fin_of (.inr rfl) (v := (vI 0)) (Res.tmp rfl rfl) (h' := []) rfl rfl ?_
 exact ⟨rfl, rfl⟩
theorem r08_edit0 (c : D.Config) (x : D.Edit) (hk : x.Kind = 0) (ha : 0 ≤ x.A ∧ x.A < 4) (hb : x.B = 0) (ht : 0 ≤ x.From ∧ x.From < x.To ∧ x.To < 2592000) (hp4 : c.People.length = 4) :
    SpecIs Tryz.prog 131 [(.agg [(.p (.sl false 3 (c.Zones.map D.Zone.cells))), (.p (.sl false 6 (c.People.map D.Person.cells))), (.p (.sl false 3 (c.Calendars.map D.Calendar.cells))), (.p (.sl false 3 (c.Schedules.map D.Schedule.cells)))]), (.agg [(vI x.Kind), (vI x.A), (vI x.B), (vI x.From), (vI x.To)])] [] (vI 0) [] := by
 refine Spec.intro Tryz.func131 rfl (by kernel_rfl) ?_
 intro Γ hGn hGk
 replace hGn : Γ.n = 86 := hGn
 replace hGk : Γ.names = [] := hGk
 let a'1 : AV := (.p (.sl false 6 (c.People.map D.Person.cells)))
 refine AWp.weaken (mk [(0, (.agg [(.p (.sl false 3 (c.Zones.map D.Zone.cells))), a'1, (.p (.sl false 3 (c.Calendars.map D.Calendar.cells))), (.p (.sl false 3 (c.Schedules.map D.Schedule.cells)))])), (1, (.agg [(vI x.Kind), (vI x.A), (vI x.B), (vI x.From), (vI x.To)]))] []) (Weak.sub' hGk (by kernel_rfl)) ?_
 let a'2 : AO := (.box [(vI x.Kind), (vI x.A), (vI x.B), (vI x.From), (vI x.To)])
 refine AWp.s_reg hGn hGk (aa 3) (Man.aa _ _) [(2, (.ref 1002 0)), (3, (.ref 1003 0))] [(1002, (.box [(.p (.sl false 3 (c.Zones.map D.Zone.cells))), a'1, (.p (.sl false 3 (c.Calendars.map D.Calendar.cells))), (.p (.sl false 3 (c.Schedules.map D.Schedule.cells)))])), (1003, a'2)] (by kernel_rfl) (by kernel_rfl) ?_
 refine AWp.s_reg hGn hGk [.a, .a, .m (some 8) ⟨[(7, a'1)], [], (vI ((c.People.length : Nat) : Int)), [], []⟩, .a] ⟨StepOK.p rfl rfl rfl (OpOK.lenP (e := 75) rfl rfl (by kernel_rfl) rfl (by rw [List.length_map])), trivial⟩ [(3, (.ref 1003 0)), (5, (vI ((c.People.length : Nat) : Int)))] [(1003, a'2)] (by kernel_rfl) (by kernel_rfl) ?_
 refine AWp.seq ?_
 refine AWp.block ?_
 refine AWp.s_reg hGn hGk [.a, .a, .m (some 12) ⟨[(11, (vI x.Kind))], [], (vB true), [], []⟩, .a, .a] ⟨StepOK.p rfl rfl rfl (OpOK.call rfl (by kernel_rfl) rfl (by have hq := (r08_in x.Kind (0 : Int) (2 : Int)); rw [(inB_true (by omega))] at hq; exact hq) (by kernel_rfl)), trivial⟩ [(3, (.ref 1003 0)), (5, (vI ((c.People.length : Nat) : Int))), (9, (vB false))] [(1003, a'2)] (by kernel_rfl) (by kernel_rfl) ?_
 refine AWp.cond_false rfl ?_
 refine AWp.s_reg hGn hGk (.a :: .a :: .a :: .m (some 18) ⟨[(17, (vI ((c.People.length : Nat) : Int)))], [], (vI (((c.People.length : Nat) : Int) - 1)), [], []⟩ :: .m (some 19) ⟨[(16, (vI x.A)), (18, (vI (((c.People.length : Nat) : Int) - 1)))], [], (vB true), [], []⟩ :: .a :: .a :: .a :: .a :: .a :: .a :: .a :: .a :: .a :: .a :: .a :: .a :: .a :: .a :: .m (some 34) ⟨[(33, (vI x.Kind)), (31, (vB false))], [], (vB false), [], []⟩ :: .a :: .a :: .a :: .a :: .a :: .a :: .a :: .a :: .a :: .a :: []) ⟨StepOK.p rfl rfl rfl (OpOK.sub rfl rfl rfl (IntWalk.i64_in _ ⟨by omega, by omega⟩)),
  StepOK.p rfl rfl rfl (OpOK.call rfl (by kernel_rfl) rfl (by have hq := (r08_in x.A (0 : Int) (((c.People.length : Nat) : Int) - 1)); rw [(inB_true (by omega))] at hq; exact hq) (by kernel_rfl)),
  StepOK.g rfl rfl rfl rfl rfl (by simp) (OpOK.eqlI rfl rfl rfl (decide_eq_false (by omega))), trivial⟩ [(3, (.ref 1003 0)), (14, (vB false))] [(1003, a'2)] (by kernel_rfl) (by kernel_rfl) ?_
 refine AWp.cond_false rfl ?_
 refine AWp.s_reg hGn hGk [.a, .a, .m (some 47) ⟨[(46, (vI x.Kind))], [], (vB true), [], []⟩, .a, .a, .a, .m (some 51) ⟨[(50, (vI x.B)), (48, (vB true))], [], (vB false), [], []⟩, .a, .a] ⟨StepOK.p rfl rfl rfl (OpOK.neqI rfl rfl rfl (decide_eq_true (by omega))),
  StepOK.g rfl rfl rfl rfl rfl (by simp) (OpOK.neqI rfl rfl rfl (decide_eq_false (by omega))), trivial⟩ [(3, (.ref 1003 0)), (44, (vB false))] [(1003, a'2)] (by kernel_rfl) (by kernel_rfl) ?_
 refine AWp.cond_false rfl ?_
 refine AWp.s_reg hGn hGk [.a, .a, .m (some 56) ⟨[(55, (vI x.Kind))], [], (vB false), [], []⟩, .a, .a, .a, .a, .a, .a, .a, .a] ⟨StepOK.p rfl rfl rfl (OpOK.eqlI rfl rfl rfl (decide_eq_false (by omega))), trivial⟩ [(3, (.ref 1003 0)), (53, (vB false))] [(1003, a'2)] (by kernel_rfl) (by kernel_rfl) ?_
 refine AWp.cond_false rfl ?_
 refine AWp.s_dreg hGn hGk (by kernel_rfl) [.a, .a, .m (some 67) ⟨[(66, (vI x.From))], [], (vB false), [], []⟩, .a, .a, .a, .m (some 71) ⟨[(70, (vI x.To)), (68, (vB false))], [], (vB false), [], []⟩, .a, .a, .a, .a, .m (some 76) ⟨[(75, (vI x.To)), (73, (vB false))], [], (vI (x.To / 86400)), [], []⟩, .m (some 77) ⟨[(73, (vB false))], [], (vI 98980), [], []⟩, .m (some 78) ⟨[(76, (vI (x.To / 86400))), (77, (vI 98980)), (73, (vB false))], [], (vB false), [], []⟩, .a, .a] ⟨StepOK.p rfl rfl rfl (OpOK.lss rfl rfl rfl (decide_eq_false (by omega))),
  StepOK.g rfl rfl rfl rfl rfl (by simp) (OpOK.lss rfl rfl rfl (decide_eq_false (by omega))),
  StepOK.g rfl rfl rfl rfl rfl (by simp) (OpOK.quo rfl rfl rfl (by omega) (IntWalk.i64_quo _ _ ⟨by omega, by omega, by omega⟩)),
  StepOK.g rfl rfl rfl rfl rfl (by simp) (OpOK.call rfl (by kernel_rfl) rfl r01_MaxDay (by kernel_rfl)),
  StepOK.g rfl rfl rfl rfl rfl (by simp) (OpOK.gtr rfl rfl rfl (decide_eq_false (by omega))), trivial⟩ [(3, (.ref 1003 0)), (64, (vB false))] [(1003, a'2)] (by kernel_rfl) (by kernel_rfl) (by kernel_rfl) ?_
 refine AWp.cond_false rfl ?_
 refine AWp.s_reg hGn hGk [.a, .a, .a, .a, .m (some 85) ⟨[(82, (vI x.From)), (84, (vI x.To))], [], (vB false), [], []⟩, .a] ⟨StepOK.p rfl rfl rfl (OpOK.geq rfl rfl rfl (decide_eq_false (by omega))), trivial⟩ [(80, (vB false))] [] (by kernel_rfl) (by kernel_rfl) ?_
 refine AWp.cond_false rfl ?_
 refine AWp.skip ?_
 refine blockQ_normal ?_
 refine nextQ_normal ?_
 refine AWp.s_reg hGn hGk (aa 1) (Man.aa _ _) [(4, (vI 0))] [] (by kernel_rfl) (by kernel_rfl) ?_
 refine AWp.ret ?_
 refine fin_of (.inr rfl) (v := (vI 0)) (Res.tmp rfl rfl) (h' := []) rfl rfl ?_
 exact ⟨rfl, rfl⟩
theorem r08_edit1 (c : D.Config) (x : D.Edit) (hk : x.Kind = 1) (ha : 0 ≤ x.A ∧ x.A < 4) (hb : x.B = 0) (ht : 0 ≤ x.From ∧ x.From < x.To ∧ x.To < 2592000) (hp4 : c.People.length = 4) :
    SpecIs Tryz.prog 131 [(.agg [(.p (.sl false 3 (c.Zones.map D.Zone.cells))), (.p (.sl false 6 (c.People.map D.Person.cells))), (.p (.sl false 3 (c.Calendars.map D.Calendar.cells))), (.p (.sl false 3 (c.Schedules.map D.Schedule.cells)))]), (.agg [(vI x.Kind), (vI x.A), (vI x.B), (vI x.From), (vI x.To)])] [] (vI 0) [] := by
 refine Spec.intro Tryz.func131 rfl (by kernel_rfl) ?_
 intro Γ hGn hGk
 replace hGn : Γ.n = 86 := hGn
 replace hGk : Γ.names = [] := hGk
 let a'1 : AV := (.p (.sl false 6 (c.People.map D.Person.cells)))
 refine AWp.weaken (mk [(0, (.agg [(.p (.sl false 3 (c.Zones.map D.Zone.cells))), a'1, (.p (.sl false 3 (c.Calendars.map D.Calendar.cells))), (.p (.sl false 3 (c.Schedules.map D.Schedule.cells)))])), (1, (.agg [(vI x.Kind), (vI x.A), (vI x.B), (vI x.From), (vI x.To)]))] []) (Weak.sub' hGk (by kernel_rfl)) ?_
 let a'2 : AO := (.box [(vI x.Kind), (vI x.A), (vI x.B), (vI x.From), (vI x.To)])
 refine AWp.s_reg hGn hGk (aa 3) (Man.aa _ _) [(2, (.ref 1002 0)), (3, (.ref 1003 0))] [(1002, (.box [(.p (.sl false 3 (c.Zones.map D.Zone.cells))), a'1, (.p (.sl false 3 (c.Calendars.map D.Calendar.cells))), (.p (.sl false 3 (c.Schedules.map D.Schedule.cells)))])), (1003, a'2)] (by kernel_rfl) (by kernel_rfl) ?_
 refine AWp.s_reg hGn hGk [.a, .a, .m (some 8) ⟨[(7, a'1)], [], (vI ((c.People.length : Nat) : Int)), [], []⟩, .a] ⟨StepOK.p rfl rfl rfl (OpOK.lenP (e := 75) rfl rfl (by kernel_rfl) rfl (by rw [List.length_map])), trivial⟩ [(3, (.ref 1003 0)), (5, (vI ((c.People.length : Nat) : Int)))] [(1003, a'2)] (by kernel_rfl) (by kernel_rfl) ?_
 refine AWp.seq ?_
 refine AWp.block ?_
 refine AWp.s_reg hGn hGk [.a, .a, .m (some 12) ⟨[(11, (vI x.Kind))], [], (vB true), [], []⟩, .a, .a] ⟨StepOK.p rfl rfl rfl (OpOK.call rfl (by kernel_rfl) rfl (by have hq := (r08_in x.Kind (0 : Int) (2 : Int)); rw [(inB_true (by omega))] at hq; exact hq) (by kernel_rfl)), trivial⟩ [(3, (.ref 1003 0)), (5, (vI ((c.People.length : Nat) : Int))), (9, (vB false))] [(1003, a'2)] (by kernel_rfl) (by kernel_rfl) ?_
 refine AWp.cond_false rfl ?_
 refine AWp.s_reg hGn hGk (.a :: .a :: .a :: .m (some 18) ⟨[(17, (vI ((c.People.length : Nat) : Int)))], [], (vI (((c.People.length : Nat) : Int) - 1)), [], []⟩ :: .m (some 19) ⟨[(16, (vI x.A)), (18, (vI (((c.People.length : Nat) : Int) - 1)))], [], (vB true), [], []⟩ :: .a :: .a :: .a :: .a :: .a :: .a :: .a :: .a :: .a :: .a :: .a :: .a :: .a :: .a :: .m (some 34) ⟨[(33, (vI x.Kind)), (31, (vB false))], [], (vB false), [], []⟩ :: .a :: .a :: .a :: .a :: .a :: .a :: .a :: .a :: .a :: .a :: []) ⟨StepOK.p rfl rfl rfl (OpOK.sub rfl rfl rfl (IntWalk.i64_in _ ⟨by omega, by omega⟩)),
  StepOK.p rfl rfl rfl (OpOK.call rfl (by kernel_rfl) rfl (by have hq := (r08_in x.A (0 : Int) (((c.People.length : Nat) : Int) - 1)); rw [(inB_true (by omega))] at hq; exact hq) (by kernel_rfl)),
  StepOK.g rfl rfl rfl rfl rfl (by simp) (OpOK.eqlI rfl rfl rfl (decide_eq_false (by omega))), trivial⟩ [(3, (.ref 1003 0)), (14, (vB false))] [(1003, a'2)] (by kernel_rfl) (by kernel_rfl) ?_
 refine AWp.cond_false rfl ?_
 refine AWp.s_reg hGn hGk [.a, .a, .m (some 47) ⟨[(46, (vI x.Kind))], [], (vB true), [], []⟩, .a, .a, .a, .m (some 51) ⟨[(50, (vI x.B)), (48, (vB true))], [], (vB false), [], []⟩, .a, .a] ⟨StepOK.p rfl rfl rfl (OpOK.neqI rfl rfl rfl (decide_eq_true (by omega))),
  StepOK.g rfl rfl rfl rfl rfl (by simp) (OpOK.neqI rfl rfl rfl (decide_eq_false (by omega))), trivial⟩ [(3, (.ref 1003 0)), (44, (vB false))] [(1003, a'2)] (by kernel_rfl) (by kernel_rfl) ?_
 refine AWp.cond_false rfl ?_
 refine AWp.s_reg hGn hGk [.a, .a, .m (some 56) ⟨[(55, (vI x.Kind))], [], (vB false), [], []⟩, .a, .a, .a, .a, .a, .a, .a, .a] ⟨StepOK.p rfl rfl rfl (OpOK.eqlI rfl rfl rfl (decide_eq_false (by omega))), trivial⟩ [(3, (.ref 1003 0)), (53, (vB false))] [(1003, a'2)] (by kernel_rfl) (by kernel_rfl) ?_
 refine AWp.cond_false rfl ?_
 refine AWp.s_dreg hGn hGk (by kernel_rfl) [.a, .a, .m (some 67) ⟨[(66, (vI x.From))], [], (vB false), [], []⟩, .a, .a, .a, .m (some 71) ⟨[(70, (vI x.To)), (68, (vB false))], [], (vB false), [], []⟩, .a, .a, .a, .a, .m (some 76) ⟨[(75, (vI x.To)), (73, (vB false))], [], (vI (x.To / 86400)), [], []⟩, .m (some 77) ⟨[(73, (vB false))], [], (vI 98980), [], []⟩, .m (some 78) ⟨[(76, (vI (x.To / 86400))), (77, (vI 98980)), (73, (vB false))], [], (vB false), [], []⟩, .a, .a] ⟨StepOK.p rfl rfl rfl (OpOK.lss rfl rfl rfl (decide_eq_false (by omega))),
  StepOK.g rfl rfl rfl rfl rfl (by simp) (OpOK.lss rfl rfl rfl (decide_eq_false (by omega))),
  StepOK.g rfl rfl rfl rfl rfl (by simp) (OpOK.quo rfl rfl rfl (by omega) (IntWalk.i64_quo _ _ ⟨by omega, by omega, by omega⟩)),
  StepOK.g rfl rfl rfl rfl rfl (by simp) (OpOK.call rfl (by kernel_rfl) rfl r01_MaxDay (by kernel_rfl)),
  StepOK.g rfl rfl rfl rfl rfl (by simp) (OpOK.gtr rfl rfl rfl (decide_eq_false (by omega))), trivial⟩ [(3, (.ref 1003 0)), (64, (vB false))] [(1003, a'2)] (by kernel_rfl) (by kernel_rfl) (by kernel_rfl) ?_
 refine AWp.cond_false rfl ?_
 refine AWp.s_reg hGn hGk [.a, .a, .a, .a, .m (some 85) ⟨[(82, (vI x.From)), (84, (vI x.To))], [], (vB false), [], []⟩, .a] ⟨StepOK.p rfl rfl rfl (OpOK.geq rfl rfl rfl (decide_eq_false (by omega))), trivial⟩ [(80, (vB false))] [] (by kernel_rfl) (by kernel_rfl) ?_
 refine AWp.cond_false rfl ?_
 refine AWp.skip ?_
 refine blockQ_normal ?_
 refine nextQ_normal ?_
 refine AWp.s_reg hGn hGk (aa 1) (Man.aa _ _) [(4, (vI 0))] [] (by kernel_rfl) (by kernel_rfl) ?_
 refine AWp.ret ?_
 refine fin_of (.inr rfl) (v := (vI 0)) (Res.tmp rfl rfl) (h' := []) rfl rfl ?_
 exact ⟨rfl, rfl⟩
theorem r08_editn (c : D.Config) (x : D.Edit) (hk : x.Kind = 1) (ha : x.A = -1) (hb : x.B = 0) (ht : 0 ≤ x.From ∧ x.From < x.To ∧ x.To < 2592000) (hp4 : c.People.length = 4) :
    SpecIs Tryz.prog 131 [(.agg [(.p (.sl false 3 (c.Zones.map D.Zone.cells))), (.p (.sl false 6 (c.People.map D.Person.cells))), (.p (.sl false 3 (c.Calendars.map D.Calendar.cells))), (.p (.sl false 3 (c.Schedules.map D.Schedule.cells)))]), (.agg [(vI x.Kind), (vI x.A), (vI x.B), (vI x.From), (vI x.To)])] [] (vI 0) [] := by
 refine Spec.intro Tryz.func131 rfl (by kernel_rfl) ?_
 intro Γ hGn hGk
 replace hGn : Γ.n = 86 := hGn
 replace hGk : Γ.names = [] := hGk
 let a'1 : AV := (.p (.sl false 6 (c.People.map D.Person.cells)))
 refine AWp.weaken (mk [(0, (.agg [(.p (.sl false 3 (c.Zones.map D.Zone.cells))), a'1, (.p (.sl false 3 (c.Calendars.map D.Calendar.cells))), (.p (.sl false 3 (c.Schedules.map D.Schedule.cells)))])), (1, (.agg [(vI x.Kind), (vI x.A), (vI x.B), (vI x.From), (vI x.To)]))] []) (Weak.sub' hGk (by kernel_rfl)) ?_
 let a'2 : AO := (.box [(vI x.Kind), (vI x.A), (vI x.B), (vI x.From), (vI x.To)])
 refine AWp.s_reg hGn hGk (aa 3) (Man.aa _ _) [(2, (.ref 1002 0)), (3, (.ref 1003 0))] [(1002, (.box [(.p (.sl false 3 (c.Zones.map D.Zone.cells))), a'1, (.p (.sl false 3 (c.Calendars.map D.Calendar.cells))), (.p (.sl false 3 (c.Schedules.map D.Schedule.cells)))])), (1003, a'2)] (by kernel_rfl) (by kernel_rfl) ?_
 refine AWp.s_reg hGn hGk [.a, .a, .m (some 8) ⟨[(7, a'1)], [], (vI ((c.People.length : Nat) : Int)), [], []⟩, .a] ⟨StepOK.p rfl rfl rfl (OpOK.lenP (e := 75) rfl rfl (by kernel_rfl) rfl (by rw [List.length_map])), trivial⟩ [(3, (.ref 1003 0)), (5, (vI ((c.People.length : Nat) : Int)))] [(1003, a'2)] (by kernel_rfl) (by kernel_rfl) ?_
 refine AWp.seq ?_
 refine AWp.block ?_
 refine AWp.s_reg hGn hGk [.a, .a, .m (some 12) ⟨[(11, (vI x.Kind))], [], (vB true), [], []⟩, .a, .a] ⟨StepOK.p rfl rfl rfl (OpOK.call rfl (by kernel_rfl) rfl (by have hq := (r08_in x.Kind (0 : Int) (2 : Int)); rw [(inB_true (by omega))] at hq; exact hq) (by kernel_rfl)), trivial⟩ [(3, (.ref 1003 0)), (5, (vI ((c.People.length : Nat) : Int))), (9, (vB false))] [(1003, a'2)] (by kernel_rfl) (by kernel_rfl) ?_
 refine AWp.cond_false rfl ?_
 refine AWp.s_reg hGn hGk (.a :: .a :: .a :: .m (some 18) ⟨[(17, (vI ((c.People.length : Nat) : Int)))], [], (vI (((c.People.length : Nat) : Int) - 1)), [], []⟩ :: .m (some 19) ⟨[(16, (vI x.A)), (18, (vI (((c.People.length : Nat) : Int) - 1)))], [], (vB false), [], []⟩ :: .a :: .a :: .a :: .a :: .m (some 24) ⟨[(23, (vI x.Kind)), (21, (vB true))], [], (vB false), [], []⟩ :: .a :: .a :: .a :: .m (some 28) ⟨[(27, (vI x.A)), (25, (vB false))], [], (vB false), [], []⟩ :: .a :: .a :: .a :: .a :: .a :: .m (some 34) ⟨[(33, (vI x.Kind)), (31, (vB false))], [], (vB false), [], []⟩ :: .a :: .a :: .a :: .a :: .a :: .a :: .a :: .a :: .a :: .a :: []) ⟨StepOK.p rfl rfl rfl (OpOK.sub rfl rfl rfl (IntWalk.i64_in _ ⟨by omega, by omega⟩)),
  StepOK.p rfl rfl rfl (OpOK.call rfl (by kernel_rfl) rfl (by have hq := (r08_in x.A (0 : Int) (((c.People.length : Nat) : Int) - 1)); rw [(inB_no (by omega))] at hq; exact hq) (by kernel_rfl)),
  StepOK.g rfl rfl rfl rfl rfl (by simp) (OpOK.neqI rfl rfl rfl (decide_eq_false (by omega))),
  StepOK.g rfl rfl rfl rfl rfl (by simp) (OpOK.neqI rfl rfl rfl (decide_eq_false (by omega))),
  StepOK.g rfl rfl rfl rfl rfl (by simp) (OpOK.eqlI rfl rfl rfl (decide_eq_false (by omega))), trivial⟩ [(3, (.ref 1003 0)), (14, (vB false))] [(1003, a'2)] (by kernel_rfl) (by kernel_rfl) ?_
 refine AWp.cond_false rfl ?_
 refine AWp.s_reg hGn hGk [.a, .a, .m (some 47) ⟨[(46, (vI x.Kind))], [], (vB true), [], []⟩, .a, .a, .a, .m (some 51) ⟨[(50, (vI x.B)), (48, (vB true))], [], (vB false), [], []⟩, .a, .a] ⟨StepOK.p rfl rfl rfl (OpOK.neqI rfl rfl rfl (decide_eq_true (by omega))),
  StepOK.g rfl rfl rfl rfl rfl (by simp) (OpOK.neqI rfl rfl rfl (decide_eq_false (by omega))), trivial⟩ [(3, (.ref 1003 0)), (44, (vB false))] [(1003, a'2)] (by kernel_rfl) (by kernel_rfl) ?_
 refine AWp.cond_false rfl ?_
 refine AWp.s_reg hGn hGk [.a, .a, .m (some 56) ⟨[(55, (vI x.Kind))], [], (vB false), [], []⟩, .a, .a, .a, .a, .a, .a, .a, .a] ⟨StepOK.p rfl rfl rfl (OpOK.eqlI rfl rfl rfl (decide_eq_false (by omega))), trivial⟩ [(3, (.ref 1003 0)), (53, (vB false))] [(1003, a'2)] (by kernel_rfl) (by kernel_rfl) ?_
 refine AWp.cond_false rfl ?_
 refine AWp.s_dreg hGn hGk (by kernel_rfl) [.a, .a, .m (some 67) ⟨[(66, (vI x.From))], [], (vB false), [], []⟩, .a, .a, .a, .m (some 71) ⟨[(70, (vI x.To)), (68, (vB false))], [], (vB false), [], []⟩, .a, .a, .a, .a, .m (some 76) ⟨[(75, (vI x.To)), (73, (vB false))], [], (vI (x.To / 86400)), [], []⟩, .m (some 77) ⟨[(73, (vB false))], [], (vI 98980), [], []⟩, .m (some 78) ⟨[(76, (vI (x.To / 86400))), (77, (vI 98980)), (73, (vB false))], [], (vB false), [], []⟩, .a, .a] ⟨StepOK.p rfl rfl rfl (OpOK.lss rfl rfl rfl (decide_eq_false (by omega))),
  StepOK.g rfl rfl rfl rfl rfl (by simp) (OpOK.lss rfl rfl rfl (decide_eq_false (by omega))),
  StepOK.g rfl rfl rfl rfl rfl (by simp) (OpOK.quo rfl rfl rfl (by omega) (IntWalk.i64_quo _ _ ⟨by omega, by omega, by omega⟩)),
  StepOK.g rfl rfl rfl rfl rfl (by simp) (OpOK.call rfl (by kernel_rfl) rfl r01_MaxDay (by kernel_rfl)),
  StepOK.g rfl rfl rfl rfl rfl (by simp) (OpOK.gtr rfl rfl rfl (decide_eq_false (by omega))), trivial⟩ [(3, (.ref 1003 0)), (64, (vB false))] [(1003, a'2)] (by kernel_rfl) (by kernel_rfl) (by kernel_rfl) ?_
 refine AWp.cond_false rfl ?_
 refine AWp.s_reg hGn hGk [.a, .a, .a, .a, .m (some 85) ⟨[(82, (vI x.From)), (84, (vI x.To))], [], (vB false), [], []⟩, .a] ⟨StepOK.p rfl rfl rfl (OpOK.geq rfl rfl rfl (decide_eq_false (by omega))), trivial⟩ [(80, (vB false))] [] (by kernel_rfl) (by kernel_rfl) ?_
 refine AWp.cond_false rfl ?_
 refine AWp.skip ?_
 refine blockQ_normal ?_
 refine nextQ_normal ?_
 refine AWp.s_reg hGn hGk (aa 1) (Man.aa _ _) [(4, (vI 0))] [] (by kernel_rfl) (by kernel_rfl) ?_
 refine AWp.ret ?_
 refine fin_of (.inr rfl) (v := (vI 0)) (Res.tmp rfl rfl) (h' := []) rfl rfl ?_
 exact ⟨rfl, rfl⟩
theorem r08_edit2 (c : D.Config) (x : D.Edit) (hk : x.Kind = 2) (ha : 0 ≤ x.A ∧ x.A < 4) (hb : 0 ≤ x.B ∧ x.B < 4 ∧ x.A ≠ x.B) (ht : 0 ≤ x.From ∧ x.From < x.To ∧ x.To < 2592000) (hp4 : c.People.length = 4) :
    SpecIs Tryz.prog 131 [(.agg [(.p (.sl false 3 (c.Zones.map D.Zone.cells))), (.p (.sl false 6 (c.People.map D.Person.cells))), (.p (.sl false 3 (c.Calendars.map D.Calendar.cells))), (.p (.sl false 3 (c.Schedules.map D.Schedule.cells)))]), (.agg [(vI x.Kind), (vI x.A), (vI x.B), (vI x.From), (vI x.To)])] [] (vI 0) [] := by
 refine Spec.intro Tryz.func131 rfl (by kernel_rfl) ?_
 intro Γ hGn hGk
 replace hGn : Γ.n = 86 := hGn
 replace hGk : Γ.names = [] := hGk
 let a'1 : AV := (.p (.sl false 6 (c.People.map D.Person.cells)))
 refine AWp.weaken (mk [(0, (.agg [(.p (.sl false 3 (c.Zones.map D.Zone.cells))), a'1, (.p (.sl false 3 (c.Calendars.map D.Calendar.cells))), (.p (.sl false 3 (c.Schedules.map D.Schedule.cells)))])), (1, (.agg [(vI x.Kind), (vI x.A), (vI x.B), (vI x.From), (vI x.To)]))] []) (Weak.sub' hGk (by kernel_rfl)) ?_
 let a'2 : AO := (.box [(vI x.Kind), (vI x.A), (vI x.B), (vI x.From), (vI x.To)])
 refine AWp.s_reg hGn hGk (aa 3) (Man.aa _ _) [(2, (.ref 1002 0)), (3, (.ref 1003 0))] [(1002, (.box [(.p (.sl false 3 (c.Zones.map D.Zone.cells))), a'1, (.p (.sl false 3 (c.Calendars.map D.Calendar.cells))), (.p (.sl false 3 (c.Schedules.map D.Schedule.cells)))])), (1003, a'2)] (by kernel_rfl) (by kernel_rfl) ?_
 refine AWp.s_reg hGn hGk [.a, .a, .m (some 8) ⟨[(7, a'1)], [], (vI ((c.People.length : Nat) : Int)), [], []⟩, .a] ⟨StepOK.p rfl rfl rfl (OpOK.lenP (e := 75) rfl rfl (by kernel_rfl) rfl (by rw [List.length_map])), trivial⟩ [(3, (.ref 1003 0)), (5, (vI ((c.People.length : Nat) : Int)))] [(1003, a'2)] (by kernel_rfl) (by kernel_rfl) ?_
 refine AWp.seq ?_
 refine AWp.block ?_
 refine AWp.s_reg hGn hGk [.a, .a, .m (some 12) ⟨[(11, (vI x.Kind))], [], (vB true), [], []⟩, .a, .a] ⟨StepOK.p rfl rfl rfl (OpOK.call rfl (by kernel_rfl) rfl (by have hq := (r08_in x.Kind (0 : Int) (2 : Int)); rw [(inB_true (by omega))] at hq; exact hq) (by kernel_rfl)), trivial⟩ [(3, (.ref 1003 0)), (5, (vI ((c.People.length : Nat) : Int))), (9, (vB false))] [(1003, a'2)] (by kernel_rfl) (by kernel_rfl) ?_
 refine AWp.cond_false rfl ?_
 refine AWp.s_reg hGn hGk (.a :: .a :: .a :: .m (some 18) ⟨[(17, (vI ((c.People.length : Nat) : Int)))], [], (vI (((c.People.length : Nat) : Int) - 1)), [], []⟩ :: .m (some 19) ⟨[(16, (vI x.A)), (18, (vI (((c.People.length : Nat) : Int) - 1)))], [], (vB true), [], []⟩ :: .a :: .a :: .a :: .a :: .a :: .a :: .a :: .a :: .a :: .a :: .a :: .a :: .a :: .a :: .m (some 34) ⟨[(33, (vI x.Kind)), (31, (vB false))], [], (vB true), [], []⟩ :: .a :: .a :: .a :: .a :: .m (some 39) ⟨[(38, (vI ((c.People.length : Nat) : Int))), (35, (vB true))], [], (vI (((c.People.length : Nat) : Int) - 1)), [], []⟩ :: .m (some 40) ⟨[(37, (vI x.B)), (39, (vI (((c.People.length : Nat) : Int) - 1))), (35, (vB true))], [], (vB true), [], []⟩ :: .a :: .a :: .a :: .a :: []) ⟨StepOK.p rfl rfl rfl (OpOK.sub rfl rfl rfl (IntWalk.i64_in _ ⟨by omega, by omega⟩)),
  StepOK.p rfl rfl rfl (OpOK.call rfl (by kernel_rfl) rfl (by have hq := (r08_in x.A (0 : Int) (((c.People.length : Nat) : Int) - 1)); rw [(inB_true (by omega))] at hq; exact hq) (by kernel_rfl)),
  StepOK.g rfl rfl rfl rfl rfl (by simp) (OpOK.eqlI rfl rfl rfl (decide_eq_true (by omega))),
  StepOK.g rfl rfl rfl rfl rfl (by simp) (OpOK.sub rfl rfl rfl (IntWalk.i64_in _ ⟨by omega, by omega⟩)),
  StepOK.g rfl rfl rfl rfl rfl (by simp) (OpOK.call rfl (by kernel_rfl) rfl (by have hq := (r08_in x.B (0 : Int) (((c.People.length : Nat) : Int) - 1)); rw [(inB_true (by omega))] at hq; exact hq) (by kernel_rfl)), trivial⟩ [(3, (.ref 1003 0)), (14, (vB false))] [(1003, a'2)] (by kernel_rfl) (by kernel_rfl) ?_
 refine AWp.cond_false rfl ?_
 refine AWp.s_reg hGn hGk [.a, .a, .m (some 47) ⟨[(46, (vI x.Kind))], [], (vB false), [], []⟩, .a, .a, .a, .a, .a, .a] ⟨StepOK.p rfl rfl rfl (OpOK.neqI rfl rfl rfl (decide_eq_false (by omega))), trivial⟩ [(3, (.ref 1003 0)), (44, (vB false))] [(1003, a'2)] (by kernel_rfl) (by kernel_rfl) ?_
 refine AWp.cond_false rfl ?_
 refine AWp.s_reg hGn hGk [.a, .a, .m (some 56) ⟨[(55, (vI x.Kind))], [], (vB true), [], []⟩, .a, .a, .a, .a, .a, .m (some 62) ⟨[(59, (vI x.A)), (61, (vI x.B)), (57, (vB true))], [], (vB false), [], []⟩, .a, .a] ⟨StepOK.p rfl rfl rfl (OpOK.eqlI rfl rfl rfl (decide_eq_true (by omega))),
  StepOK.g rfl rfl rfl rfl rfl (by simp) (OpOK.eqlI rfl rfl rfl (decide_eq_false (by omega))), trivial⟩ [(3, (.ref 1003 0)), (53, (vB false))] [(1003, a'2)] (by kernel_rfl) (by kernel_rfl) ?_
 refine AWp.cond_false rfl ?_
 refine AWp.s_dreg hGn hGk (by kernel_rfl) [.a, .a, .m (some 67) ⟨[(66, (vI x.From))], [], (vB false), [], []⟩, .a, .a, .a, .m (some 71) ⟨[(70, (vI x.To)), (68, (vB false))], [], (vB false), [], []⟩, .a, .a, .a, .a, .m (some 76) ⟨[(75, (vI x.To)), (73, (vB false))], [], (vI (x.To / 86400)), [], []⟩, .m (some 77) ⟨[(73, (vB false))], [], (vI 98980), [], []⟩, .m (some 78) ⟨[(76, (vI (x.To / 86400))), (77, (vI 98980)), (73, (vB false))], [], (vB false), [], []⟩, .a, .a] ⟨StepOK.p rfl rfl rfl (OpOK.lss rfl rfl rfl (decide_eq_false (by omega))),
  StepOK.g rfl rfl rfl rfl rfl (by simp) (OpOK.lss rfl rfl rfl (decide_eq_false (by omega))),
  StepOK.g rfl rfl rfl rfl rfl (by simp) (OpOK.quo rfl rfl rfl (by omega) (IntWalk.i64_quo _ _ ⟨by omega, by omega, by omega⟩)),
  StepOK.g rfl rfl rfl rfl rfl (by simp) (OpOK.call rfl (by kernel_rfl) rfl r01_MaxDay (by kernel_rfl)),
  StepOK.g rfl rfl rfl rfl rfl (by simp) (OpOK.gtr rfl rfl rfl (decide_eq_false (by omega))), trivial⟩ [(3, (.ref 1003 0)), (64, (vB false))] [(1003, a'2)] (by kernel_rfl) (by kernel_rfl) (by kernel_rfl) ?_
 refine AWp.cond_false rfl ?_
 refine AWp.s_reg hGn hGk [.a, .a, .a, .a, .m (some 85) ⟨[(82, (vI x.From)), (84, (vI x.To))], [], (vB false), [], []⟩, .a] ⟨StepOK.p rfl rfl rfl (OpOK.geq rfl rfl rfl (decide_eq_false (by omega))), trivial⟩ [(80, (vB false))] [] (by kernel_rfl) (by kernel_rfl) ?_
 refine AWp.cond_false rfl ?_
 refine AWp.skip ?_
 refine blockQ_normal ?_
 refine nextQ_normal ?_
 refine AWp.s_reg hGn hGk (aa 1) (Man.aa _ _) [(4, (vI 0))] [] (by kernel_rfl) (by kernel_rfl) ?_
 refine AWp.ret ?_
 refine fin_of (.inr rfl) (v := (vI 0)) (Res.tmp rfl rfl) (h' := []) rfl rfl ?_
 exact ⟨rfl, rfl⟩
theorem r08_edit (c : D.Config) (x : D.Edit) (h : EditOK 4 x) (hp4 : c.People.length = 4) : SpecIs Tryz.prog 131 [(.agg [(.p (.sl false 3 (c.Zones.map D.Zone.cells))), (.p (.sl false 6 (c.People.map D.Person.cells))), (.p (.sl false 3 (c.Calendars.map D.Calendar.cells))), (.p (.sl false 3 (c.Schedules.map D.Schedule.cells)))]), (.agg [(vI x.Kind), (vI x.A), (vI x.B), (vI x.From), (vI x.To)])] [] (vI 0) [] := by
  obtain ⟨hk, ha, hb, hb0, ht⟩ := h
  rcases (show x.Kind = 0 ∨ x.Kind = 1 ∨ x.Kind = 2 by omega) with h0 | h0 | h0
  · exact r08_edit0 c x h0 (by omega) (hb0 (by omega)) ht hp4
  · rcases ha with ha | ha
    · exact r08_edit1 c x h0 (by omega) (hb0 (by omega)) ht hp4
    · exact r08_editn c x h0 ha.2 (hb0 (by omega)) ht hp4
  · exact r08_edit2 c x h0 (by omega) (hb h0) ht hp4
theorem r08_layer (c : D.Config) (l : D.Layer) (h : LayerOK 4 l) (hz1 : c.Zones.length = 1) (hp4 : c.People.length = 4) :
    SpecIs Tryz.prog 130 [(.agg [(.p (.sl false 3 (c.Zones.map D.Zone.cells))), (.p (.sl false 6 (c.People.map D.Person.cells))), (.p (.sl false 3 (c.Calendars.map D.Calendar.cells))), (.p (.sl false 3 (c.Schedules.map D.Schedule.cells)))]), (.agg [(vS l.Name), (vI l.Zone), (vI l.Start.Day), (vI l.Start.Second), (vI l.Unit), (vI l.Every), (.p (.sl false 1 (l.Members.map D.cInt))), (.p (.sl false 2 (l.Windows.map D.Window.cells))), (vI l.Calendar), (vI l.Mode)])] [] (vI 0) [] := by
 refine Spec.intro Tryz.func130 rfl (by kernel_rfl) ?_
 intro Γ hGn hGk
 replace hGn : Γ.n = 102 := hGn
 replace hGk : Γ.names = [] := hGk
 obtain ⟨hnm, hzo, hd, hsec, hun, hev, hle, hme, hwi, hca⟩ := h
 obtain ⟨hc1, hc2⟩ := hca
 have hw0 : windowsErr l.Windows = 0 := by rw [hwi]; exact windowsErr_nil
 let a'1 : AV := (.p (.sl false 3 (c.Zones.map D.Zone.cells)))
 let a'2 : AV := (.p (.sl false 6 (c.People.map D.Person.cells)))
 let a'3 : AV := (.p (.sl false 3 (c.Calendars.map D.Calendar.cells)))
 let a'4 : AV := (.p (.sl false 3 (c.Schedules.map D.Schedule.cells)))
 let a'5 : AV := (.p (.sl false 1 (l.Members.map D.cInt)))
 let a'6 : AV := (.p (.sl false 2 (l.Windows.map D.Window.cells)))
 refine AWp.weaken (mk [(0, (.agg [a'1, a'2, a'3, a'4])), (1, (.agg [(vS l.Name), (vI l.Zone), (vI l.Start.Day), (vI l.Start.Second), (vI l.Unit), (vI l.Every), a'5, a'6, (vI l.Calendar), (vI l.Mode)]))] []) (Weak.sub' hGk (by kernel_rfl)) ?_
 let a'7 : AO := (.box [a'1, a'2, a'3, a'4])
 let a'8 : AO := (.box [(vS l.Name), (vI l.Zone), (vI l.Start.Day), (vI l.Start.Second), (vI l.Unit), (vI l.Every), a'5, a'6, (vI l.Calendar), (vI l.Mode)])
 refine AWp.s_reg hGn hGk (aa 3) (Man.aa _ _) [(2, (.ref 1002 0)), (3, (.ref 1003 0))] [(1002, a'7), (1003, a'8)] (by kernel_rfl) (by kernel_rfl) ?_
 refine AWp.seq ?_
 refine AWp.block ?_
 refine AWp.s_reg hGn hGk [.a, .a, .a, .a, .m (some 11) ⟨[(10, a'1)], [], (vI ((c.Zones.length : Nat) : Int)), [], []⟩, .m (some 12) ⟨[(11, (vI ((c.Zones.length : Nat) : Int)))], [], (vI (((c.Zones.length : Nat) : Int) - 1)), [], []⟩, .m (some 13) ⟨[(8, (vI l.Zone)), (12, (vI (((c.Zones.length : Nat) : Int) - 1)))], [], (vB true), [], []⟩, .a, .a] ⟨StepOK.p rfl rfl rfl (OpOK.lenP (e := 72) rfl rfl (by kernel_rfl) rfl (by rw [List.length_map])),
  StepOK.p rfl rfl rfl (OpOK.sub rfl rfl rfl (IntWalk.i64_in _ ⟨by omega, by omega⟩)),
  StepOK.p rfl rfl rfl (OpOK.call rfl (by kernel_rfl) rfl (by have hq := (r08_in l.Zone (0 : Int) (((c.Zones.length : Nat) : Int) - 1)); rw [(inB_true (by omega))] at hq; exact hq) (by kernel_rfl)), trivial⟩ [(2, (.ref 1002 0)), (3, (.ref 1003 0)), (6, (vB false))] [(1002, a'7), (1003, a'8)] (by kernel_rfl) (by kernel_rfl) ?_
 refine AWp.cond_false rfl ?_
 refine AWp.s_dreg hGn hGk (by kernel_rfl) [.a, .a, .a, .m (some 19) ⟨[], [], (vI 98980), [], []⟩, .m (some 20) ⟨[(18, (vI l.Start.Day)), (19, (vI 98980))], [], (vB true), [], []⟩, .a, .a, .a, .a, .a, .m (some 26) ⟨[(25, (vI l.Start.Second)), (22, (vB false))], [], (vB true), [], []⟩, .a, .a, .a, .a, .a, .m (some 32) ⟨[(31, (vI l.Unit)), (29, (vB false))], [], (vB true), [], []⟩, .a, .a, .a, .a, .a, .m (some 38) ⟨[(37, (vI l.Every)), (35, (vB false))], [], (vB true), [], []⟩, .a, .a, .a] ⟨StepOK.p rfl rfl rfl (OpOK.call rfl (by kernel_rfl) rfl r01_MaxDay (by kernel_rfl)),
  StepOK.p rfl rfl rfl (OpOK.call rfl (by kernel_rfl) rfl (by have hq := (r08_in l.Start.Day (1 : Int) (98980 : Int)); rw [(inB_true (by omega))] at hq; exact hq) (by kernel_rfl)),
  StepOK.g rfl rfl rfl rfl rfl (by simp) (OpOK.call rfl (by kernel_rfl) rfl (by have hq := (r08_in l.Start.Second (0 : Int) (86399 : Int)); rw [(inB_true (by omega))] at hq; exact hq) (by kernel_rfl)),
  StepOK.g rfl rfl rfl rfl rfl (by simp) (OpOK.call rfl (by kernel_rfl) rfl (by have hq := (r08_in l.Unit (0 : Int) (2 : Int)); rw [(inB_true (by omega))] at hq; exact hq) (by kernel_rfl)),
  StepOK.g rfl rfl rfl rfl rfl (by simp) (OpOK.call rfl (by kernel_rfl) rfl (by have hq := (r08_in l.Every (1 : Int) (400 : Int)); rw [(inB_true (by omega))] at hq; exact hq) (by kernel_rfl)), trivial⟩ [(2, (.ref 1002 0)), (3, (.ref 1003 0)), (15, (vB false))] [(1002, a'7), (1003, a'8)] (by kernel_rfl) (by kernel_rfl) (by kernel_rfl) ?_
 refine AWp.cond_false rfl ?_
 refine AWp.s_reg hGn hGk [.a, .a, .m (some 44) ⟨[(43, a'5)], [], (vI ((l.Members.length : Nat) : Int)), [], []⟩, .m (some 45) ⟨[(44, (vI ((l.Members.length : Nat) : Int)))], [], (vB false), [], []⟩, .a] ⟨StepOK.p rfl rfl rfl (OpOK.lenP (e := 3) rfl rfl (by kernel_rfl) rfl (by rw [List.length_map])),
  StepOK.p rfl rfl rfl (OpOK.eqlI rfl rfl rfl (decide_eq_false (by omega))), trivial⟩ [(2, (.ref 1002 0)), (3, (.ref 1003 0)), (41, (vB false))] [(1002, a'7), (1003, a'8)] (by kernel_rfl) (by kernel_rfl) ?_
 refine AWp.cond_false rfl ?_
 refine AWp.s_reg hGn hGk [.a, .a, .m (some 49) ⟨[(48, a'5)], [], (vI ((l.Members.length : Nat) : Int)), [], []⟩, .m (some 50) ⟨[(49, (vI ((l.Members.length : Nat) : Int)))], [], (vB false), [], []⟩, .a] ⟨StepOK.p rfl rfl rfl (OpOK.lenP (e := 3) rfl rfl (by kernel_rfl) rfl (by rw [List.length_map])),
  StepOK.p rfl rfl rfl (OpOK.gtr rfl rfl rfl (decide_eq_false (by omega))), trivial⟩ [(2, (.ref 1002 0)), (3, (.ref 1003 0)), (46, (vB false))] [(1002, a'7), (1003, a'8)] (by kernel_rfl) (by kernel_rfl) ?_
 refine AWp.cond_false rfl ?_
 refine AWp.skip ?_
 refine blockQ_normal ?_
 refine nextQ_normal ?_
 refine AWp.seq ?_
 refine AWp.s_reg hGn hGk (aa 1) (Man.aa _ _) [(2, (.ref 1002 0)), (3, (.ref 1003 0)), (5, (vI 0))] [(1002, a'7), (1003, a'8)] (by kernel_rfl) (by kernel_rfl) ?_
 refine AWp.block ?_
 refine AWp.loop (fun m s => ∃ k, s = (mk [(2, (.ref 1002 0)), (3, (.ref 1003 0)), (5, (vI ((k : Nat) : Int)))] [(1002, (.box [(.p (.sl false 3 (c.Zones.map D.Zone.cells))), (.p (.sl false 6 (c.People.map D.Person.cells))), (.p (.sl false 3 (c.Calendars.map D.Calendar.cells))), (.p (.sl false 3 (c.Schedules.map D.Schedule.cells)))])), (1003, (.box [(vS l.Name), (vI l.Zone), (vI l.Start.Day), (vI l.Start.Second), (vI l.Unit), (vI l.Every), (.p (.sl false 1 (l.Members.map D.cInt))), (.p (.sl false 2 (l.Windows.map D.Window.cells))), (vI l.Calendar), (vI l.Mode)]))]) ∧ (k ≤ l.Members.length) ∧ m = (l.Members.length - k))
  ⟨_, 0, rfl, (by omega), rfl⟩ ?_
 rintro mm1 s ⟨k, rfl, hk, hmm1⟩
 refine AWp.seq ?_
 refine AWp.s_reg hGn hGk [.a, .a, .a, .m (some 54) ⟨[(53, a'5)], [], (vI ((l.Members.length : Nat) : Int)), [], []⟩, .a] ⟨StepOK.p rfl rfl rfl (OpOK.lenP (e := 3) rfl rfl (by kernel_rfl) rfl (by rw [List.length_map])), trivial⟩ [(2, (.ref 1002 0)), (3, (.ref 1003 0)), (5, (vI ((k : Nat) : Int))), (55, (vB (decide (((k : Nat) : Int) < ((l.Members.length : Nat) : Int)))))] [(1002, a'7), (1003, a'8)] (by kernel_rfl) (by kernel_rfl) ?_
 refine AWp.cond (decide (((k : Nat) : Int) < ((l.Members.length : Nat) : Int))) rfl (fun hc2 => ?_) (fun hc2 => ?_)
 ·skip
  replace hc2 := of_decide_eq_true hc2
  refine AWp.skip ?_
  refine nextQ_normal ?_
  refine AWp.seq ?_
  refine AWp.block ?_
  have hmk := hme k (by omega)
  refine AWp.s_dreg hGn hGk (by kernel_rfl) [.a, .a, .a, .m (some 61) ⟨[(59, a'5), (60, (vI ((k : Nat) : Int)))], [], (.eptr [(pI (nth l.Members k))]), [], []⟩, .a, .a, .a, .m (some 65) ⟨[(64, a'2)], [], (vI ((c.People.length : Nat) : Int)), [], []⟩, .m (some 66) ⟨[(65, (vI ((c.People.length : Nat) : Int)))], [], (vI (((c.People.length : Nat) : Int) - 1)), [], []⟩, .m (some 67) ⟨[(62, (vI (nth l.Members k))), (66, (vI (((c.People.length : Nat) : Int) - 1)))], [], (vB true), [], []⟩, .a] ⟨StepOK.p rfl rfl rfl (OpOK.indexP (e := 3) rfl (by kernel_rfl) (by kernel_rfl) rfl rfl rfl (map_nth (by omega))),
   StepOK.p rfl rfl rfl (OpOK.lenP (e := 75) rfl rfl (by kernel_rfl) rfl (by rw [List.length_map])),
   StepOK.p rfl rfl rfl (OpOK.sub rfl rfl rfl (IntWalk.i64_in _ ⟨by omega, by omega⟩)),
   StepOK.p rfl rfl rfl (OpOK.call rfl (by kernel_rfl) rfl (by have hq := (r08_in (nth l.Members k) (0 : Int) (((c.People.length : Nat) : Int) - 1)); rw [(inB_true (by omega))] at hq; exact hq) (by kernel_rfl)), trivial⟩ [(2, (.ref 1002 0)), (3, (.ref 1003 0)), (5, (vI ((k : Nat) : Int))), (68, (vB false))] [(1002, a'7), (1003, a'8)] (by kernel_rfl) (by kernel_rfl) (by kernel_rfl) ?_
  refine AWp.cond_false rfl ?_
  refine AWp.skip ?_
  refine blockQ_normal ?_
  refine nextQ_normal ?_
  refine AWp.reg' hGn hGk [.a, .m (some 57) ⟨[(56, (vI ((k : Nat) : Int)))], [], (vI ((k + 1 : Nat) : Int)), [], []⟩, .a] ⟨StepOK.p rfl rfl rfl (OpOK.add rfl rfl rfl (by rw [IntWalk.i64_in _ ⟨by omega, by omega⟩]; omega)), trivial⟩ [(2, (.ref 1002 0)), (3, (.ref 1003 0)), (5, (vI ((k + 1 : Nat) : Int)))] [(1002, a'7), (1003, a'8)] (by kernel_rfl) (by kernel_rfl) ?_
  refine nextQ_normal ⟨_, ?_, (k + 1), rfl, (by omega), rfl⟩
  · omega
 ·skip
  replace hc2 := of_decide_eq_false hc2
  refine AWp.weaken (mk [(2, (.ref 1002 0)), (3, (.ref 1003 0))] [(1002, a'7), (1003, a'8)]) (Weak.sub' hGk (by kernel_rfl)) ?_
  refine AWp.exit ?_
  refine nextQ_exit ?_
  refine nextQ_exit ?_
  refine blockQ_exit ?_
  refine nextQ_normal ?_
  refine AWp.seq ?_
  refine AWp.block ?_
  refine AWp.s_reg hGn hGk [.a, .a, .m (some 72) ⟨[(71, a'6)], [], (vI (windowsErr l.Windows)), [], []⟩, .m (some 73) ⟨[(72, (vI (windowsErr l.Windows)))], [], (vB false), [], []⟩, .a] ⟨StepOK.p rfl rfl rfl (OpOK.call rfl (by kernel_rfl) rfl (r05_Check l.Windows) (by kernel_rfl)),
   StepOK.p rfl rfl rfl (OpOK.neqI rfl rfl rfl (decide_eq_false (by omega))), trivial⟩ [(2, (.ref 1002 0)), (3, (.ref 1003 0)), (69, (vB false))] [(1002, a'7), (1003, a'8)] (by kernel_rfl) (by kernel_rfl) ?_
  refine AWp.cond_false rfl ?_
  refine AWp.s_reg hGn hGk [.a, .a, .m (some 77) ⟨[(76, (vI l.Mode))], [], (vB true), [], []⟩, .a, .a] ⟨StepOK.p rfl rfl rfl (OpOK.call rfl (by kernel_rfl) rfl (by have hq := (r08_in l.Mode (0 : Int) (2 : Int)); rw [(inB_true (by omega))] at hq; exact hq) (by kernel_rfl)), trivial⟩ [(2, (.ref 1002 0)), (3, (.ref 1003 0)), (74, (vB false))] [(1002, a'7), (1003, a'8)] (by kernel_rfl) (by kernel_rfl) ?_
  refine AWp.cond_false rfl ?_
  refine AWp.s_reg hGn hGk [.a, .a, .m (some 82) ⟨[(81, (vI l.Mode))], [], (vB false), [], []⟩, .a, .a, .a, .a, .a, .a, .a, .a, .a, .a, .a] ⟨StepOK.p rfl rfl rfl (OpOK.neqI rfl rfl rfl (decide_eq_false (by omega))), trivial⟩ [(3, (.ref 1003 0)), (79, (vB false))] [(1003, a'8)] (by kernel_rfl) (by kernel_rfl) ?_
  refine AWp.cond_false rfl ?_
  refine AWp.s_reg hGn hGk [.a, .a, .m (some 96) ⟨[(95, (vI l.Mode))], [], (vB true), [], []⟩, .a, .a, .a, .m (some 100) ⟨[(99, (vI l.Calendar)), (97, (vB true))], [], (vB false), [], []⟩, .a, .a] ⟨StepOK.p rfl rfl rfl (OpOK.eqlI rfl rfl rfl (decide_eq_true (by omega))),
   StepOK.g rfl rfl rfl rfl rfl (by simp) (OpOK.neqI rfl rfl rfl (decide_eq_false (by omega))), trivial⟩ [(93, (vB false))] [] (by kernel_rfl) (by kernel_rfl) ?_
  refine AWp.cond_false rfl ?_
  refine AWp.skip ?_
  refine blockQ_normal ?_
  refine nextQ_normal ?_
  refine AWp.s_reg hGn hGk (aa 1) (Man.aa _ _) [(4, (vI 0))] [] (by kernel_rfl) (by kernel_rfl) ?_
  refine AWp.ret ?_
  refine fin_of (.inr rfl) (v := (vI 0)) (Res.tmp rfl rfl) (h' := []) rfl rfl ?_
  exact ⟨rfl, rfl⟩
theorem r08_sch (c : D.Config) (h : CfgOK c) :
    SpecIs Tryz.prog 86 [(.agg [(.p (.sl false 3 (c.Zones.map D.Zone.cells))), (.p (.sl false 6 (c.People.map D.Person.cells))), (.p (.sl false 3 (c.Calendars.map D.Calendar.cells))), (.p (.sl false 3 (c.Schedules.map D.Schedule.cells)))])] [] (vI 0) [] := by
 refine Spec.intro Tryz.func86 rfl (by kernel_rfl) ?_
 intro Γ hGn hGk
 replace hGn : Γ.n = 95 := hGn
 replace hGk : Γ.names = [] := hGk
 have hs2 := h.slen
 let a'1 : AV := (.p (.sl false 3 (c.Zones.map D.Zone.cells)))
 let a'2 : AV := (.p (.sl false 6 (c.People.map D.Person.cells)))
 let a'3 : AV := (.p (.sl false 3 (c.Calendars.map D.Calendar.cells)))
 let a'4 : AV := (.p (.sl false 3 (c.Schedules.map D.Schedule.cells)))
 let a'5 : AV := (.agg [a'1, a'2, a'3, a'4])
 refine AWp.weaken (mk [(0, a'5)] []) (Weak.sub' hGk (by kernel_rfl)) ?_
 let a'6 : AO := (.box [a'1, a'2, a'3, a'4])
 refine AWp.s_reg hGn hGk (aa 2) (Man.aa _ _) [(1, (.ref 1001 0))] [(1001, a'6)] (by kernel_rfl) (by kernel_rfl) ?_
 refine AWp.s_reg hGn hGk (aa 1) (Man.aa _ _) [(1, (.ref 1001 0)), (3, (.p (.sl true 0 [])))] [(1001, a'6)] (by kernel_rfl) (by kernel_rfl) ?_
 refine AWp.seq ?_
 refine AWp.s_reg hGn hGk (aa 1) (Man.aa _ _) [(1, (.ref 1001 0)), (3, (.p (.sl true 0 []))), (4, (vI 0))] [(1001, a'6)] (by kernel_rfl) (by kernel_rfl) ?_
 refine AWp.block ?_
 refine AWp.weaken (mk [(1, (.ref 1001 0)), (3, (.own 2000 0)), (4, (vI 0))] [(2000, (.arr 1 [])), (1001, a'6)]) (Weak.thaw (t := 3) (es0 := 0) (by kernel_rfl) rfl (by kernel_rfl) (by kernel_rfl) (by kernel_rfl)) ?_
 refine AWp.loop (fun m s => ∃ k, s = (mk [(1, (.ref 1001 0)), (3, (.own 2000 ((((schNames).take k).map D.cStr).length))), (4, (vI ((k : Nat) : Int)))] [(2000, (.arr 1 (((schNames).take k).map D.cStr))), (1001, (.box [(.p (.sl false 3 (c.Zones.map D.Zone.cells))), (.p (.sl false 6 (c.People.map D.Person.cells))), (.p (.sl false 3 (c.Calendars.map D.Calendar.cells))), (.p (.sl false 3 (c.Schedules.map D.Schedule.cells)))]))]) ∧ (k ≤ c.Schedules.length) ∧ m = (c.Schedules.length - k))
  ⟨_, 0, rfl, (by omega), rfl⟩ ?_
 rintro mm1 s ⟨k, rfl, hk, hmm1⟩
 refine AWp.seq ?_
 let a'7 : AV := (.own 2000 ((((schNames).take k).map D.cStr).length))
 let a'8 : AO := (.arr 1 (((schNames).take k).map D.cStr))
 refine AWp.s_reg hGn hGk [.a, .a, .a, .m (some 16) ⟨[(15, a'4)], [], (vI ((c.Schedules.length : Nat) : Int)), [], []⟩, .a] ⟨StepOK.p rfl rfl rfl (OpOK.lenP (e := 85) rfl rfl (by kernel_rfl) rfl (by rw [List.length_map])), trivial⟩ [(1, (.ref 1001 0)), (3, a'7), (4, (vI ((k : Nat) : Int))), (17, (vB (decide (((k : Nat) : Int) < ((c.Schedules.length : Nat) : Int)))))] [(2000, a'8), (1001, a'6)] (by kernel_rfl) (by kernel_rfl) ?_
 refine AWp.cond (decide (((k : Nat) : Int) < ((c.Schedules.length : Nat) : Int))) rfl (fun hc2 => ?_) (fun hc2 => ?_)
 ·skip
  replace hc2 := of_decide_eq_true hc2
  refine AWp.skip ?_
  refine nextQ_normal ?_
  refine AWp.seq ?_
  refine AWp.block ?_
  have hl1 := (h.lay k (by omega)).1
  have hel := (h.edit k (by omega)).1
  let a'9 : AV := (.p (.sl false 10 (((nth c.Schedules k).Layers).map D.Layer.cells)))
  let a'10 : AV := (.p (.sl false 5 (((nth c.Schedules k).Edits).map D.Edit.cells)))
  let a'11 : AO := (.box [(vS ((nth c.Schedules k).Name)), a'9, a'10])
  refine AWp.s_reg hGn hGk [.a, .a, .a, .m (some 23) ⟨[(21, a'4), (22, (vI ((k : Nat) : Int)))], [], (.eptr [(pS ((nth c.Schedules k).Name)), (.sl false 10 (((nth c.Schedules k).Layers).map D.Layer.cells)), (.sl false 5 (((nth c.Schedules k).Edits).map D.Edit.cells))]), [], []⟩, .a, .a, .a] ⟨StepOK.p rfl rfl rfl (OpOK.indexP (e := 85) rfl (by kernel_rfl) (by kernel_rfl) rfl rfl rfl (map_nth (by omega))), trivial⟩ [(1, (.ref 1001 0)), (3, a'7), (4, (vI ((k : Nat) : Int))), (5, (.ref 1005 0))] [(2000, a'8), (1001, a'6), (1005, a'11)] (by kernel_rfl) (by kernel_rfl) ?_
  let a'12 : AV := (.own 2000 ((((schNames).take (k + 1)).map D.cStr).length))
  let a'13 : AO := (.arr 1 (((schNames).take (k + 1)).map D.cStr))
  refine AWp.s_reg hGn hGk [.a, .a, .a, .a, .m (some 29) ⟨[(25, a'7), (28, (.p (.sl true 1 [[(pS ((nth c.Schedules k).Name))]])))], [(2000, a'8)], a'12, [(2000, a'13)], []⟩, .a] ⟨StepOK.p rfl rfl rfl (OpOK.appendOwn (e := 9) (bytes := 16) rfl rfl (by kernel_rfl) (by kernel_rfl) rfl (Nat.beq_refl _) rfl (names_next (show k < 2 by omega) (h.snm (by omega))) rfl (by simp only [List.length_map, List.length_take, List.length_cons, List.length_nil]; omega) (by simp only [List.length_map, List.length_take, List.length_cons, List.length_nil]; omega)), trivial⟩ [(1, (.ref 1001 0)), (3, a'12), (4, (vI ((k : Nat) : Int))), (5, (.ref 1005 0))] [(2000, a'13), (1001, a'6), (1005, a'11)] (by kernel_rfl) (by kernel_rfl) ?_
  refine AWp.seq ?_
  refine AWp.s_reg hGn hGk [.a, .a, .m (some 32) ⟨[(30, a'12), (31, (vI ((k : Nat) : Int)))], [(2000, a'13)], (vI 0), [(2000, a'13)], []⟩, .a] ⟨StepOK.p rfl rfl rfl (OpOK.call rfl (by kernel_rfl) rfl (r08_name2000 ((schNames).take (k + 1)) k (seen_sch k (by omega)) (by simp only [List.length_take]; omega)) (by kernel_rfl)), trivial⟩ [(1, (.ref 1001 0)), (3, a'12), (4, (vI ((k : Nat) : Int))), (5, (.ref 1005 0)), (6, (vI 0))] [(2000, a'13), (1001, a'6), (1005, a'11)] (by kernel_rfl) (by kernel_rfl) ?_
  refine AWp.s_reg hGn hGk (aa 2) (Man.aa _ _) [(1, (.ref 1001 0)), (3, a'12), (4, (vI ((k : Nat) : Int))), (5, (.ref 1005 0)), (6, (vI 0)), (34, (vB false))] [(2000, a'13), (1001, a'6), (1005, a'11)] (by kernel_rfl) (by kernel_rfl) ?_
  refine AWp.cond_false rfl ?_
  refine AWp.skip ?_
  refine nextQ_normal ?_
  refine AWp.seq ?_
  refine AWp.s_reg hGn hGk [.a, .a, .m (some 38) ⟨[(37, a'9)], [], (vI ((((nth c.Schedules k).Layers).length : Nat) : Int)), [], []⟩, .m (some 39) ⟨[(38, (vI ((((nth c.Schedules k).Layers).length : Nat) : Int)))], [], (vB false), [], []⟩, .a, .a, .a, .m (some 43) ⟨[(42, a'10), (40, (vB false))], [], (vI ((((nth c.Schedules k).Edits).length : Nat) : Int)), [], []⟩, .m (some 44) ⟨[(43, (vI ((((nth c.Schedules k).Edits).length : Nat) : Int))), (40, (vB false))], [], (vB false), [], []⟩, .a] ⟨StepOK.p rfl rfl rfl (OpOK.lenP (e := 81) rfl rfl (by kernel_rfl) rfl (by rw [List.length_map])),
   StepOK.p rfl rfl rfl (OpOK.gtr rfl rfl rfl (decide_eq_false (by omega))),
   StepOK.g rfl rfl rfl rfl rfl (by simp) (OpOK.lenP (e := 87) rfl rfl (by kernel_rfl) rfl (by rw [List.length_map])),
   StepOK.g rfl rfl rfl rfl rfl (by simp) (OpOK.gtr rfl rfl rfl (decide_eq_false (by omega))), trivial⟩ [(1, (.ref 1001 0)), (3, a'12), (4, (vI ((k : Nat) : Int))), (5, (.ref 1005 0)), (45, (vB false))] [(2000, a'13), (1001, a'6), (1005, a'11)] (by kernel_rfl) (by kernel_rfl) ?_
  refine AWp.cond_false rfl ?_
  refine AWp.skip ?_
  refine nextQ_normal ?_
  refine AWp.s_reg hGn hGk (aa 1) (Man.aa _ _) [(1, (.ref 1001 0)), (3, a'12), (4, (vI ((k : Nat) : Int))), (5, (.ref 1005 0)), (7, (.p (.sl true 0 [])))] [(2000, a'13), (1001, a'6), (1005, a'11)] (by kernel_rfl) (by kernel_rfl) ?_
  refine AWp.seq ?_
  refine AWp.s_reg hGn hGk (aa 1) (Man.aa _ _) [(1, (.ref 1001 0)), (3, a'12), (4, (vI ((k : Nat) : Int))), (5, (.ref 1005 0)), (7, (.p (.sl true 0 []))), (8, (vI 0))] [(2000, a'13), (1001, a'6), (1005, a'11)] (by kernel_rfl) (by kernel_rfl) ?_
  refine AWp.block ?_
  refine AWp.weaken (mk [(1, (.ref 1001 0)), (3, a'12), (4, (vI ((k : Nat) : Int))), (5, (.ref 1005 0)), (7, (.own 2001 0)), (8, (vI 0))] [(2001, (.arr 1 [])), (2000, a'13), (1001, a'6), (1005, a'11)]) (Weak.thaw (t := 7) (es0 := 0) (by kernel_rfl) rfl (by kernel_rfl) (by kernel_rfl) (by kernel_rfl)) ?_
  refine AWp.loop (fun m s => ∃ mi, s = (mk [(1, (.ref 1001 0)), (3, (.own 2000 ((((schNames).take (k + 1)).map D.cStr).length))), (4, (vI ((k : Nat) : Int))), (5, (.ref 1005 0)), (7, (.own 2001 (((([(nth (nth c.Schedules k).Layers 0).Name] : List ByteArray).take mi).map D.cStr).length))), (8, (vI ((mi : Nat) : Int)))] [(2001, (.arr 1 ((([(nth (nth c.Schedules k).Layers 0).Name] : List ByteArray).take mi).map D.cStr))), (2000, (.arr 1 (((schNames).take (k + 1)).map D.cStr))), (1001, (.box [(.p (.sl false 3 (c.Zones.map D.Zone.cells))), (.p (.sl false 6 (c.People.map D.Person.cells))), (.p (.sl false 3 (c.Calendars.map D.Calendar.cells))), (.p (.sl false 3 (c.Schedules.map D.Schedule.cells)))])), (1005, (.box [(vS ((nth c.Schedules k).Name)), (.p (.sl false 10 (((nth c.Schedules k).Layers).map D.Layer.cells))), (.p (.sl false 5 (((nth c.Schedules k).Edits).map D.Edit.cells)))]))]) ∧ (mi ≤ (nth c.Schedules k).Layers.length) ∧ m = ((nth c.Schedules k).Layers.length - mi))
   ⟨_, 0, rfl, (by omega), rfl⟩ ?_
  rintro mm3 s ⟨mi, rfl, hmi, hmm3⟩
  refine AWp.seq ?_
  refine AWp.s_reg hGn hGk [.a, .a, .a, .m (some 49) ⟨[(48, a'9)], [], (vI ((((nth c.Schedules k).Layers).length : Nat) : Int)), [], []⟩, .a] ⟨StepOK.p rfl rfl rfl (OpOK.lenP (e := 81) rfl rfl (by kernel_rfl) rfl (by rw [List.length_map])), trivial⟩ [(1, (.ref 1001 0)), (3, a'12), (4, (vI ((k : Nat) : Int))), (5, (.ref 1005 0)), (7, (.own 2001 (((([(nth (nth c.Schedules k).Layers 0).Name] : List ByteArray).take mi).map D.cStr).length))), (8, (vI ((mi : Nat) : Int))), (50, (vB (decide (((mi : Nat) : Int) < ((((nth c.Schedules k).Layers).length : Nat) : Int)))))] [(2001, (.arr 1 ((([(nth (nth c.Schedules k).Layers 0).Name] : List ByteArray).take mi).map D.cStr))), (2000, a'13), (1001, a'6), (1005, a'11)] (by kernel_rfl) (by kernel_rfl) ?_
  refine AWp.cond (decide (((mi : Nat) : Int) < ((((nth c.Schedules k).Layers).length : Nat) : Int))) rfl (fun hc4 => ?_) (fun hc4 => ?_)
  ·skip
   replace hc4 := of_decide_eq_true hc4
   refine AWp.skip ?_
   refine nextQ_normal ?_
   refine AWp.seq ?_
   refine AWp.block ?_
   have hm0 : mi = 0 := by omega
   let a'14 : AV := (.own 2001 (((([(nth (nth c.Schedules k).Layers 0).Name] : List ByteArray).take (mi + 1)).map D.cStr).length))
   let a'15 : AO := (.arr 1 ((([(nth (nth c.Schedules k).Layers 0).Name] : List ByteArray).take (mi + 1)).map D.cStr))
   refine AWp.s_reg hGn hGk [.a, .a, .a, .a, .m (some 57) ⟨[(55, a'9), (56, (vI ((mi : Nat) : Int)))], [], (.eptr [(pS ((nth ((nth c.Schedules k).Layers) mi).Name)), (pI ((nth ((nth c.Schedules k).Layers) mi).Zone)), (pI (((nth ((nth c.Schedules k).Layers) mi).Start).Day)), (pI (((nth ((nth c.Schedules k).Layers) mi).Start).Second)), (pI ((nth ((nth c.Schedules k).Layers) mi).Unit)), (pI ((nth ((nth c.Schedules k).Layers) mi).Every)), (.sl false 1 (((nth ((nth c.Schedules k).Layers) mi).Members).map D.cInt)), (.sl false 2 (((nth ((nth c.Schedules k).Layers) mi).Windows).map D.Window.cells)), (pI ((nth ((nth c.Schedules k).Layers) mi).Calendar)), (pI ((nth ((nth c.Schedules k).Layers) mi).Mode))]), [], []⟩, .a, .a, .a, .m (some 61) ⟨[(53, (.own 2001 (((([(nth (nth c.Schedules k).Layers 0).Name] : List ByteArray).take mi).map D.cStr).length))), (60, (.p (.sl true 1 [[(pS ((nth ((nth c.Schedules k).Layers) mi).Name))]])))], [(2001, (.arr 1 ((([(nth (nth c.Schedules k).Layers 0).Name] : List ByteArray).take mi).map D.cStr)))], a'14, [(2001, a'15)], []⟩, .a] ⟨StepOK.p rfl rfl rfl (OpOK.indexP (e := 81) rfl (by kernel_rfl) (by kernel_rfl) rfl rfl rfl (map_nth (by omega))),
    StepOK.p rfl rfl rfl (OpOK.appendOwn (e := 9) (bytes := 16) rfl rfl (by kernel_rfl) (by kernel_rfl) rfl (Nat.beq_refl _) rfl (names_next (by simp only [List.length_cons, List.length_nil]; omega) (by rw [hm0]; rfl)) rfl (by simp only [List.length_map, List.length_take, List.length_cons, List.length_nil]; omega) (by simp only [List.length_map, List.length_take, List.length_cons, List.length_nil]; omega)), trivial⟩ [(1, (.ref 1001 0)), (3, a'12), (4, (vI ((k : Nat) : Int))), (5, (.ref 1005 0)), (7, a'14), (8, (vI ((mi : Nat) : Int)))] [(2001, a'15), (2000, a'13), (1001, a'6), (1005, a'11)] (by kernel_rfl) (by kernel_rfl) ?_
   refine AWp.seq ?_
   refine AWp.s_reg hGn hGk [.a, .a, .m (some 64) ⟨[(62, a'14), (63, (vI ((mi : Nat) : Int)))], [(2001, a'15)], (vI 0), [(2001, a'15)], []⟩, .a] ⟨StepOK.p rfl rfl rfl (OpOK.call rfl (by kernel_rfl) rfl (r08_name2001 (([(nth (nth c.Schedules k).Layers 0).Name] : List ByteArray).take (mi + 1)) mi (seen_one (h.lay k (by omega)).2.name (by omega)) (by simp only [List.length_take]; omega)) (by kernel_rfl)), trivial⟩ [(1, (.ref 1001 0)), (3, a'12), (4, (vI ((k : Nat) : Int))), (5, (.ref 1005 0)), (7, a'14), (8, (vI ((mi : Nat) : Int))), (9, (vI 0))] [(2001, a'15), (2000, a'13), (1001, a'6), (1005, a'11)] (by kernel_rfl) (by kernel_rfl) ?_
   refine AWp.s_reg hGn hGk (aa 2) (Man.aa _ _) [(1, (.ref 1001 0)), (3, a'12), (4, (vI ((k : Nat) : Int))), (5, (.ref 1005 0)), (7, a'14), (8, (vI ((mi : Nat) : Int))), (9, (vI 0)), (66, (vB false))] [(2001, a'15), (2000, a'13), (1001, a'6), (1005, a'11)] (by kernel_rfl) (by kernel_rfl) ?_
   refine AWp.cond_false rfl ?_
   refine AWp.skip ?_
   refine nextQ_normal ?_
   refine AWp.s_dreg hGn hGk (by kernel_rfl) [.a, .a, .a, .a, .m (some 72) ⟨[(70, a'9), (71, (vI ((mi : Nat) : Int)))], [], (.eptr [(pS ((nth ((nth c.Schedules k).Layers) mi).Name)), (pI ((nth ((nth c.Schedules k).Layers) mi).Zone)), (pI (((nth ((nth c.Schedules k).Layers) mi).Start).Day)), (pI (((nth ((nth c.Schedules k).Layers) mi).Start).Second)), (pI ((nth ((nth c.Schedules k).Layers) mi).Unit)), (pI ((nth ((nth c.Schedules k).Layers) mi).Every)), (.sl false 1 (((nth ((nth c.Schedules k).Layers) mi).Members).map D.cInt)), (.sl false 2 (((nth ((nth c.Schedules k).Layers) mi).Windows).map D.Window.cells)), (pI ((nth ((nth c.Schedules k).Layers) mi).Calendar)), (pI ((nth ((nth c.Schedules k).Layers) mi).Mode))]), [], []⟩, .a, .m (some 74) ⟨[(68, a'5), (73, (.agg [(vS ((nth ((nth c.Schedules k).Layers) mi).Name)), (vI ((nth ((nth c.Schedules k).Layers) mi).Zone)), (vI (((nth ((nth c.Schedules k).Layers) mi).Start).Day)), (vI (((nth ((nth c.Schedules k).Layers) mi).Start).Second)), (vI ((nth ((nth c.Schedules k).Layers) mi).Unit)), (vI ((nth ((nth c.Schedules k).Layers) mi).Every)), (.p (.sl false 1 (((nth ((nth c.Schedules k).Layers) mi).Members).map D.cInt))), (.p (.sl false 2 (((nth ((nth c.Schedules k).Layers) mi).Windows).map D.Window.cells))), (vI ((nth ((nth c.Schedules k).Layers) mi).Calendar)), (vI ((nth ((nth c.Schedules k).Layers) mi).Mode))]))], [], (vI 0), [], []⟩, .a] ⟨StepOK.p rfl rfl rfl (OpOK.indexP (e := 81) rfl (by kernel_rfl) (by kernel_rfl) rfl rfl rfl (map_nth (by omega))),
    StepOK.p rfl rfl rfl (OpOK.call rfl (by kernel_rfl) rfl (r08_layer c (⟨(nth ((nth c.Schedules k).Layers) mi).Name, (nth ((nth c.Schedules k).Layers) mi).Zone, ((nth ((nth c.Schedules k).Layers) mi).Start), (nth ((nth c.Schedules k).Layers) mi).Unit, (nth ((nth c.Schedules k).Layers) mi).Every, (nth ((nth c.Schedules k).Layers) mi).Members, (nth ((nth c.Schedules k).Layers) mi).Windows, (nth ((nth c.Schedules k).Layers) mi).Calendar, (nth ((nth c.Schedules k).Layers) mi).Mode⟩ : D.Layer) (by rw [hm0]; exact (h.lay k (by omega)).2) h.zlen h.plen) (by kernel_rfl)), trivial⟩ [(1, (.ref 1001 0)), (3, a'12), (4, (vI ((k : Nat) : Int))), (5, (.ref 1005 0)), (7, a'14), (8, (vI ((mi : Nat) : Int))), (10, (vI 0))] [(2001, a'15), (2000, a'13), (1001, a'6), (1005, a'11)] (by kernel_rfl) (by kernel_rfl) (by kernel_rfl) ?_
   refine AWp.s_reg hGn hGk (aa 2) (Man.aa _ _) [(1, (.ref 1001 0)), (3, a'12), (4, (vI ((k : Nat) : Int))), (5, (.ref 1005 0)), (7, a'14), (8, (vI ((mi : Nat) : Int))), (10, (vI 0)), (76, (vB false))] [(2001, a'15), (2000, a'13), (1001, a'6), (1005, a'11)] (by kernel_rfl) (by kernel_rfl) ?_
   refine AWp.cond_false rfl ?_
   refine AWp.skip ?_
   refine blockQ_normal ?_
   refine nextQ_normal ?_
   refine AWp.reg' hGn hGk [.a, .m (some 52) ⟨[(51, (vI ((mi : Nat) : Int)))], [], (vI ((mi + 1 : Nat) : Int)), [], []⟩, .a] ⟨StepOK.p rfl rfl rfl (OpOK.add rfl rfl rfl (by rw [IntWalk.i64_in _ ⟨by omega, by omega⟩]; omega)), trivial⟩ [(1, (.ref 1001 0)), (3, a'12), (4, (vI ((k : Nat) : Int))), (5, (.ref 1005 0)), (7, a'14), (8, (vI ((mi + 1 : Nat) : Int)))] [(2001, a'15), (2000, a'13), (1001, a'6), (1005, a'11)] (by kernel_rfl) (by kernel_rfl) ?_
   refine nextQ_normal ⟨_, ?_, (mi + 1), rfl, (by omega), rfl⟩
   · omega
  ·skip
   replace hc4 := of_decide_eq_false hc4
   refine AWp.weaken (mk [(1, (.ref 1001 0)), (3, a'12), (4, (vI ((k : Nat) : Int))), (5, (.ref 1005 0))] [(2000, a'13), (1001, a'6), (1005, a'11)]) (Weak.sub' hGk (by kernel_rfl)) ?_
   refine AWp.exit ?_
   refine nextQ_exit ?_
   refine nextQ_exit ?_
   refine blockQ_exit ?_
   refine nextQ_normal ?_
   refine AWp.s_reg hGn hGk (aa 1) (Man.aa _ _) [(1, (.ref 1001 0)), (3, a'12), (4, (vI ((k : Nat) : Int))), (5, (.ref 1005 0)), (11, (vI 0))] [(2000, a'13), (1001, a'6), (1005, a'11)] (by kernel_rfl) (by kernel_rfl) ?_
   refine AWp.block ?_
   refine AWp.loop (fun m s => ∃ j, s = (mk [(1, (.ref 1001 0)), (3, (.own 2000 ((((schNames).take (k + 1)).map D.cStr).length))), (4, (vI ((k : Nat) : Int))), (5, (.ref 1005 0)), (11, (vI ((j : Nat) : Int)))] [(2000, (.arr 1 (((schNames).take (k + 1)).map D.cStr))), (1001, (.box [(.p (.sl false 3 (c.Zones.map D.Zone.cells))), (.p (.sl false 6 (c.People.map D.Person.cells))), (.p (.sl false 3 (c.Calendars.map D.Calendar.cells))), (.p (.sl false 3 (c.Schedules.map D.Schedule.cells)))])), (1005, (.box [(vS ((nth c.Schedules k).Name)), (.p (.sl false 10 (((nth c.Schedules k).Layers).map D.Layer.cells))), (.p (.sl false 5 (((nth c.Schedules k).Edits).map D.Edit.cells)))]))]) ∧ (j ≤ (nth c.Schedules k).Edits.length) ∧ m = ((nth c.Schedules k).Edits.length - j))
    ⟨_, 0, rfl, (by omega), rfl⟩ ?_
   rintro mm5 s ⟨j, rfl, hj, hmm5⟩
   refine AWp.seq ?_
   refine AWp.s_reg hGn hGk [.a, .a, .a, .m (some 81) ⟨[(80, a'10)], [], (vI ((((nth c.Schedules k).Edits).length : Nat) : Int)), [], []⟩, .a] ⟨StepOK.p rfl rfl rfl (OpOK.lenP (e := 87) rfl rfl (by kernel_rfl) rfl (by rw [List.length_map])), trivial⟩ [(1, (.ref 1001 0)), (3, a'12), (4, (vI ((k : Nat) : Int))), (5, (.ref 1005 0)), (11, (vI ((j : Nat) : Int))), (82, (vB (decide (((j : Nat) : Int) < ((((nth c.Schedules k).Edits).length : Nat) : Int)))))] [(2000, a'13), (1001, a'6), (1005, a'11)] (by kernel_rfl) (by kernel_rfl) ?_
   refine AWp.cond (decide (((j : Nat) : Int) < ((((nth c.Schedules k).Edits).length : Nat) : Int))) rfl (fun hc6 => ?_) (fun hc6 => ?_)
   ·skip
    replace hc6 := of_decide_eq_true hc6
    refine AWp.skip ?_
    refine nextQ_normal ?_
    refine AWp.seq ?_
    refine AWp.block ?_
    refine AWp.s_dreg hGn hGk (by kernel_rfl) [.a, .a, .a, .a, .m (some 89) ⟨[(87, a'10), (88, (vI ((j : Nat) : Int)))], [], (.eptr [(pI ((nth ((nth c.Schedules k).Edits) j).Kind)), (pI ((nth ((nth c.Schedules k).Edits) j).A)), (pI ((nth ((nth c.Schedules k).Edits) j).B)), (pI ((nth ((nth c.Schedules k).Edits) j).From)), (pI ((nth ((nth c.Schedules k).Edits) j).To))]), [], []⟩, .a, .m (some 91) ⟨[(85, a'5), (90, (.agg [(vI ((nth ((nth c.Schedules k).Edits) j).Kind)), (vI ((nth ((nth c.Schedules k).Edits) j).A)), (vI ((nth ((nth c.Schedules k).Edits) j).B)), (vI ((nth ((nth c.Schedules k).Edits) j).From)), (vI ((nth ((nth c.Schedules k).Edits) j).To))]))], [], (vI 0), [], []⟩, .a] ⟨StepOK.p rfl rfl rfl (OpOK.indexP (e := 87) rfl (by kernel_rfl) (by kernel_rfl) rfl rfl rfl (map_nth (by omega))),
     StepOK.p rfl rfl rfl (OpOK.call rfl (by kernel_rfl) rfl (r08_edit c (nth ((nth c.Schedules k).Edits) j) ((h.edit k (by omega)).2 j (by omega)) h.plen) (by kernel_rfl)), trivial⟩ [(1, (.ref 1001 0)), (3, a'12), (4, (vI ((k : Nat) : Int))), (5, (.ref 1005 0)), (11, (vI ((j : Nat) : Int))), (12, (vI 0))] [(2000, a'13), (1001, a'6), (1005, a'11)] (by kernel_rfl) (by kernel_rfl) (by kernel_rfl) ?_
    refine AWp.s_reg hGn hGk (aa 2) (Man.aa _ _) [(1, (.ref 1001 0)), (3, a'12), (4, (vI ((k : Nat) : Int))), (5, (.ref 1005 0)), (11, (vI ((j : Nat) : Int))), (12, (vI 0)), (93, (vB false))] [(2000, a'13), (1001, a'6), (1005, a'11)] (by kernel_rfl) (by kernel_rfl) ?_
    refine AWp.cond_false rfl ?_
    refine AWp.skip ?_
    refine blockQ_normal ?_
    refine nextQ_normal ?_
    refine AWp.reg' hGn hGk [.a, .m (some 84) ⟨[(83, (vI ((j : Nat) : Int)))], [], (vI ((j + 1 : Nat) : Int)), [], []⟩, .a] ⟨StepOK.p rfl rfl rfl (OpOK.add rfl rfl rfl (by rw [IntWalk.i64_in _ ⟨by omega, by omega⟩]; omega)), trivial⟩ [(1, (.ref 1001 0)), (3, a'12), (4, (vI ((k : Nat) : Int))), (5, (.ref 1005 0)), (11, (vI ((j + 1 : Nat) : Int)))] [(2000, a'13), (1001, a'6), (1005, a'11)] (by kernel_rfl) (by kernel_rfl) ?_
    refine nextQ_normal ⟨_, ?_, (j + 1), rfl, (by omega), rfl⟩
    · omega
   ·skip
    replace hc6 := of_decide_eq_false hc6
    refine AWp.weaken (mk [(1, (.ref 1001 0)), (3, a'12), (4, (vI ((k : Nat) : Int)))] [(2000, a'13), (1001, a'6)]) (Weak.sub' hGk (by kernel_rfl)) ?_
    refine AWp.exit ?_
    refine nextQ_exit ?_
    refine nextQ_exit ?_
    refine blockQ_exit ?_
    refine blockQ_normal ?_
    refine nextQ_normal ?_
    refine AWp.reg' hGn hGk [.a, .m (some 19) ⟨[(18, (vI ((k : Nat) : Int)))], [], (vI ((k + 1 : Nat) : Int)), [], []⟩, .a] ⟨StepOK.p rfl rfl rfl (OpOK.add rfl rfl rfl (by rw [IntWalk.i64_in _ ⟨by omega, by omega⟩]; omega)), trivial⟩ [(1, (.ref 1001 0)), (3, a'12), (4, (vI ((k + 1 : Nat) : Int)))] [(2000, a'13), (1001, a'6)] (by kernel_rfl) (by kernel_rfl) ?_
    refine nextQ_normal ⟨_, ?_, (k + 1), rfl, (by omega), rfl⟩
    · omega
 ·skip
  replace hc2 := of_decide_eq_false hc2
  refine AWp.weaken (mk [] []) (Weak.sub' hGk (by kernel_rfl)) ?_
  refine AWp.exit ?_
  refine nextQ_exit ?_
  refine nextQ_exit ?_
  refine blockQ_exit ?_
  refine nextQ_normal ?_
  refine AWp.s_reg hGn hGk (aa 1) (Man.aa _ _) [(2, (vI 0))] [] (by kernel_rfl) (by kernel_rfl) ?_
  refine AWp.ret ?_
  refine fin_of (.inr rfl) (v := (vI 0)) (Res.tmp rfl rfl) (h' := []) rfl rfl ?_
  exact ⟨rfl, rfl⟩
theorem r08_Check (c : D.Config) (h : CfgOK c) :
    SpecIs Tryz.prog 47 [(.agg [(.p (.sl false 3 (c.Zones.map D.Zone.cells))), (.p (.sl false 6 (c.People.map D.Person.cells))), (.p (.sl false 3 (c.Calendars.map D.Calendar.cells))), (.p (.sl false 3 (c.Schedules.map D.Schedule.cells)))])] [] (vI 0) [] := by
 refine Spec.intro Tryz.func47 rfl (by kernel_rfl) ?_
 intro Γ hGn hGk
 replace hGn : Γ.n = 45 := hGn
 replace hGk : Γ.names = [] := hGk
 have hz1 := h.zlen
 have hp4 := h.plen
 have hs2 := h.slen
 have hcl : c.Calendars.length = 0 := by rw [h.cal]; rfl
 let a'1 : AV := (.p (.sl false 3 (c.Zones.map D.Zone.cells)))
 let a'2 : AV := (.p (.sl false 6 (c.People.map D.Person.cells)))
 let a'3 : AV := (.p (.sl false 3 (c.Calendars.map D.Calendar.cells)))
 let a'4 : AV := (.p (.sl false 3 (c.Schedules.map D.Schedule.cells)))
 let a'5 : AV := (.agg [a'1, a'2, a'3, a'4])
 refine AWp.weaken (mk [(0, a'5)] []) (Weak.sub' hGk (by kernel_rfl)) ?_
 let a'6 : AO := (.box [a'1, a'2, a'3, a'4])
 refine AWp.s_reg hGn hGk (aa 2) (Man.aa _ _) [(1, (.ref 1001 0))] [(1001, a'6)] (by kernel_rfl) (by kernel_rfl) ?_
 refine AWp.seq ?_
 refine AWp.s_reg hGn hGk [.a, .a, .m (some 8) ⟨[(7, a'1)], [], (vI ((c.Zones.length : Nat) : Int)), [], []⟩, .m (some 9) ⟨[(8, (vI ((c.Zones.length : Nat) : Int)))], [], (vB false), [], []⟩, .a, .a, .a, .m (some 13) ⟨[(12, a'2), (10, (vB false))], [], (vI ((c.People.length : Nat) : Int)), [], []⟩, .m (some 14) ⟨[(13, (vI ((c.People.length : Nat) : Int))), (10, (vB false))], [], (vB false), [], []⟩, .a, .a, .a, .a, .m (some 19) ⟨[(18, a'3), (16, (vB false))], [], (vI ((c.Calendars.length : Nat) : Int)), [], []⟩, .m (some 20) ⟨[(19, (vI ((c.Calendars.length : Nat) : Int))), (16, (vB false))], [], (vB false), [], []⟩, .a, .a, .a, .a, .m (some 25) ⟨[(24, a'4), (22, (vB false))], [], (vI ((c.Schedules.length : Nat) : Int)), [], []⟩, .m (some 26) ⟨[(25, (vI ((c.Schedules.length : Nat) : Int))), (22, (vB false))], [], (vB false), [], []⟩, .a] ⟨StepOK.p rfl rfl rfl (OpOK.lenP (e := 72) rfl rfl (by kernel_rfl) rfl (by rw [List.length_map])),
  StepOK.p rfl rfl rfl (OpOK.gtr rfl rfl rfl (decide_eq_false (by omega))),
  StepOK.g rfl rfl rfl rfl rfl (by simp) (OpOK.lenP (e := 75) rfl rfl (by kernel_rfl) rfl (by rw [List.length_map])),
  StepOK.g rfl rfl rfl rfl rfl (by simp) (OpOK.gtr rfl rfl rfl (decide_eq_false (by omega))),
  StepOK.g rfl rfl rfl rfl rfl (by simp) (OpOK.lenP (e := 134) rfl rfl (by kernel_rfl) rfl (by rw [List.length_map])),
  StepOK.g rfl rfl rfl rfl rfl (by simp) (OpOK.gtr rfl rfl rfl (decide_eq_false (by omega))),
  StepOK.g rfl rfl rfl rfl rfl (by simp) (OpOK.lenP (e := 85) rfl rfl (by kernel_rfl) rfl (by rw [List.length_map])),
  StepOK.g rfl rfl rfl rfl rfl (by simp) (OpOK.gtr rfl rfl rfl (decide_eq_false (by omega))), trivial⟩ [(1, (.ref 1001 0)), (27, (vB false))] [(1001, a'6)] (by kernel_rfl) (by kernel_rfl) ?_
 refine AWp.cond_false rfl ?_
 refine AWp.skip ?_
 refine nextQ_normal ?_
 refine AWp.seq ?_
 refine AWp.s_reg hGn hGk [.a, .m (some 29) ⟨[(28, a'5)], [], (vI 0), [], []⟩, .a] ⟨StepOK.p rfl rfl rfl (OpOK.call rfl (by kernel_rfl) rfl (r08_zones c h) (by kernel_rfl)), trivial⟩ [(1, (.ref 1001 0)), (3, (vI 0))] [(1001, a'6)] (by kernel_rfl) (by kernel_rfl) ?_
 refine AWp.s_reg hGn hGk (aa 2) (Man.aa _ _) [(1, (.ref 1001 0)), (3, (vI 0)), (31, (vB false))] [(1001, a'6)] (by kernel_rfl) (by kernel_rfl) ?_
 refine AWp.cond_false rfl ?_
 refine AWp.skip ?_
 refine nextQ_normal ?_
 refine AWp.seq ?_
 refine AWp.s_reg hGn hGk [.a, .m (some 34) ⟨[(33, a'5)], [], (vI 0), [], []⟩, .a] ⟨StepOK.p rfl rfl rfl (OpOK.call rfl (by kernel_rfl) rfl (r08_people c h) (by kernel_rfl)), trivial⟩ [(1, (.ref 1001 0)), (4, (vI 0))] [(1001, a'6)] (by kernel_rfl) (by kernel_rfl) ?_
 refine AWp.s_reg hGn hGk (aa 2) (Man.aa _ _) [(1, (.ref 1001 0)), (4, (vI 0)), (36, (vB false))] [(1001, a'6)] (by kernel_rfl) (by kernel_rfl) ?_
 refine AWp.cond_false rfl ?_
 refine AWp.skip ?_
 refine nextQ_normal ?_
 refine AWp.seq ?_
 refine AWp.s_reg hGn hGk [.a, .m (some 39) ⟨[(38, a'5)], [], (vI 0), [], []⟩, .a] ⟨StepOK.p rfl rfl rfl (OpOK.call rfl (by kernel_rfl) rfl (r08_cal c h) (by kernel_rfl)), trivial⟩ [(1, (.ref 1001 0)), (5, (vI 0))] [(1001, a'6)] (by kernel_rfl) (by kernel_rfl) ?_
 refine AWp.s_reg hGn hGk (aa 2) (Man.aa _ _) [(1, (.ref 1001 0)), (5, (vI 0)), (41, (vB false))] [(1001, a'6)] (by kernel_rfl) (by kernel_rfl) ?_
 refine AWp.cond_false rfl ?_
 refine AWp.skip ?_
 refine nextQ_normal ?_
 refine AWp.s_reg hGn hGk [.a, .m (some 44) ⟨[(43, a'5)], [], (vI 0), [], []⟩, .a] ⟨StepOK.p rfl rfl rfl (OpOK.call rfl (by kernel_rfl) rfl (r08_sch c h) (by kernel_rfl)), trivial⟩ [(2, (vI 0))] [] (by kernel_rfl) (by kernel_rfl) ?_
 refine AWp.ret ?_
 refine fin_of (.inr rfl) (v := (vI 0)) (Res.tmp rfl rfl) (h' := []) rfl rfl ?_
 exact ⟨rfl, rfl⟩
end Go.Proofs.YtimfbibaoppfcaaGreatDoor
