/-
  The walks of configurations: zones, days. Printed by wip/gen/pol.py.
-/
import Derived.Test.YtimfbibaoppfcaaGreatDoorNameWalk
set_option maxRecDepth 100000
set_option linter.unusedSimpArgs false
set_option linter.unusedVariables false
namespace Go.Proofs.YtimfbibaoppfcaaGreatDoor
open Go AM
theorem zone_ins  :
    SpecIs Tryz.prog 212 [(.p (.sl true 0 [])), (vI 0), (vI 0), (.p (.v (.func (.func 195) #[] #[])))] [] (.tup []) [] := by
 refine Spec.intro Tryz.func212 rfl (by kernel_rfl) ?_
 intro Γ hGn hGk
 replace hGn : Γ.n = 53 := hGn
 replace hGk : Γ.names = [] := hGk
 refine AWp.weaken (mk [(0, (.p (.sl true 0 []))), (1, (vI 0)), (2, (vI 0)), (3, (.p (.v (.func (.func 195) #[] #[]))))] []) (Weak.sub' hGk (by kernel_rfl)) ?_
 refine AWp.s_reg hGn hGk [.a, .m (some 11) ⟨[(10, (vI 0))], [], (vI 1), [], []⟩, .a] ⟨StepOK.p rfl rfl rfl (OpOK.add rfl rfl rfl (by decide)), trivial⟩ [(0, (.p (.sl true 0 []))), (1, (vI 0)), (2, (vI 0)), (3, (.p (.v (.func (.func 195) #[] #[])))), (8, (vI 1))] [] (by kernel_rfl) (by kernel_rfl) ?_
 refine AWp.block ?_
 refine AWp.loop (fun m s =>  s = (mk [(0, (.p (.sl true 0 []))), (1, (vI 0)), (2, (vI 0)), (3, (.p (.v (.func (.func 195) #[] #[])))), (8, (vI 1))] []) ∧ m = 0)
  ⟨_, rfl, rfl⟩ ?_
 rintro mm1 s ⟨rfl, hmm1⟩
 refine AWp.seq ?_
 refine AWp.s_reg hGn hGk (aa 3) (Man.aa _ _) [(0, (.p (.sl true 0 []))), (1, (vI 0)), (2, (vI 0)), (3, (.p (.v (.func (.func 195) #[] #[])))), (8, (vI 1)), (14, (vB false))] [] (by kernel_rfl) (by kernel_rfl) ?_
 refine AWp.cond_false rfl ?_
 refine AWp.weaken (mk [] []) (Weak.sub' hGk (by kernel_rfl)) ?_
 refine AWp.exit ?_
 refine nextQ_exit ?_
 refine nextQ_exit ?_
 refine blockQ_exit ?_
 refine fin_of (.inl rfl) (v := (.tup [])) (Res.many (by kernel_rfl) Res1s.nil) (h' := []) rfl rfl ?_
 exact ⟨rfl, rfl⟩
theorem zone_stable  :
    SpecIs Tryz.prog 208 [(.p (.sl true 0 [])), (vI 0), (.p (.v (.func (.func 195) #[] #[])))] [] (.tup []) [] := by
 refine Spec.intro Tryz.func208 rfl (by kernel_rfl) ?_
 intro Γ hGn hGk
 replace hGn : Γ.n = 63 := hGn
 replace hGk : Γ.names = [] := hGk
 refine AWp.weaken (mk [(0, (.p (.sl true 0 []))), (1, (vI 0)), (2, (.p (.v (.func (.func 195) #[] #[]))))] []) (Weak.sub' hGk (by kernel_rfl)) ?_
 refine AWp.s_reg hGn hGk (aa 1) (Man.aa _ _) [(0, (.p (.sl true 0 []))), (1, (vI 0)), (2, (.p (.v (.func (.func 195) #[] #[])))), (6, (vI 20))] [] (by kernel_rfl) (by kernel_rfl) ?_
 refine AWp.s_reg hGn hGk (aa 3) (Man.aa _ _) [(0, (.p (.sl true 0 []))), (1, (vI 0)), (2, (.p (.v (.func (.func 195) #[] #[])))), (6, (vI 20)), (7, (vI 0)), (8, (vI 20))] [] (by kernel_rfl) (by kernel_rfl) ?_
 refine AWp.seq ?_
 refine AWp.block ?_
 refine AWp.loop (fun m s =>  s = (mk [(0, (.p (.sl true 0 []))), (1, (vI 0)), (2, (.p (.v (.func (.func 195) #[] #[])))), (6, (vI 20)), (7, (vI 0)), (8, (vI 20))] []) ∧ m = 0)
  ⟨_, rfl, rfl⟩ ?_
 rintro mm1 s ⟨rfl, hmm1⟩
 refine AWp.seq ?_
 refine AWp.s_reg hGn hGk (aa 3) (Man.aa _ _) [(0, (.p (.sl true 0 []))), (1, (vI 0)), (2, (.p (.v (.func (.func 195) #[] #[])))), (6, (vI 20)), (7, (vI 0)), (8, (vI 20)), (13, (vB false))] [] (by kernel_rfl) (by kernel_rfl) ?_
 refine AWp.cond_false rfl ?_
 refine AWp.weaken (mk [(0, (.p (.sl true 0 []))), (1, (vI 0)), (2, (.p (.v (.func (.func 195) #[] #[])))), (6, (vI 20)), (7, (vI 0))] []) (Weak.sub' hGk (by kernel_rfl)) ?_
 refine AWp.exit ?_
 refine nextQ_exit ?_
 refine nextQ_exit ?_
 refine blockQ_exit ?_
 refine nextQ_normal ?_
 refine AWp.s_reg hGn hGk [.a, .a, .a, .a, .m (some 27) ⟨[(23, (.p (.sl true 0 []))), (24, (vI 0)), (25, (vI 0)), (26, (.p (.v (.func (.func 195) #[] #[]))))], [], (.tup []), [], []⟩] ⟨StepOK.p rfl rfl rfl (OpOK.call rfl (by kernel_rfl) rfl zone_ins (by kernel_rfl)), trivial⟩ [(0, (.p (.sl true 0 []))), (1, (vI 0)), (2, (.p (.v (.func (.func 195) #[] #[])))), (6, (vI 20))] [] (by kernel_rfl) (by kernel_rfl) ?_
 refine AWp.block ?_
 refine AWp.loop (fun m s =>  s = (mk [(0, (.p (.sl true 0 []))), (1, (vI 0)), (2, (.p (.v (.func (.func 195) #[] #[])))), (6, (vI 20))] []) ∧ m = 0)
  ⟨_, rfl, rfl⟩ ?_
 rintro mm2 s ⟨rfl, hmm2⟩
 refine AWp.seq ?_
 refine AWp.s_reg hGn hGk (aa 3) (Man.aa _ _) [(0, (.p (.sl true 0 []))), (1, (vI 0)), (2, (.p (.v (.func (.func 195) #[] #[])))), (6, (vI 20)), (30, (vB false))] [] (by kernel_rfl) (by kernel_rfl) ?_
 refine AWp.cond_false rfl ?_
 refine AWp.weaken (mk [] []) (Weak.sub' hGk (by kernel_rfl)) ?_
 refine AWp.exit ?_
 refine nextQ_exit ?_
 refine nextQ_exit ?_
 refine blockQ_exit ?_
 refine fin_of (.inl rfl) (v := (.tup [])) (Res.many (by kernel_rfl) Res1s.nil) (h' := []) rfl rfl ?_
 exact ⟨rfl, rfl⟩
theorem zone_sort  :
    SpecIs Tryz.prog 194 [(.p (.sl true 0 [])), (.p (.v (.func (.func 195) #[] #[])))] [] (.tup []) [] := by
 refine Spec.intro Tryz.func194 rfl (by kernel_rfl) ?_
 intro Γ hGn hGk
 replace hGn : Γ.n = 9 := hGn
 replace hGk : Γ.names = [] := hGk
 refine AWp.weaken (mk [(0, (.p (.sl true 0 []))), (1, (.p (.v (.func (.func 195) #[] #[]))))] []) (Weak.sub' hGk (by kernel_rfl)) ?_
 refine AWp.reg' hGn hGk [.a, .a, .m (some 6) ⟨[(5, (.p (.sl true 0 [])))], [], (vI 0), [], []⟩, .a, .m (some 8) ⟨[(4, (.p (.sl true 0 []))), (6, (vI 0)), (7, (.p (.v (.func (.func 195) #[] #[]))))], [], (.tup []), [], []⟩] ⟨StepOK.p rfl rfl rfl (OpOK.lenP (e := 223) rfl rfl (by kernel_rfl) rfl rfl),
  StepOK.p rfl rfl rfl (OpOK.call rfl (by kernel_rfl) rfl zone_stable (by kernel_rfl)), trivial⟩ [] [] (by kernel_rfl) (by kernel_rfl) ?_
 refine fin_of (.inl rfl) (v := (.tup [])) (Res.many (by kernel_rfl) Res1s.nil) (h' := []) rfl rfl ?_
 exact ⟨rfl, rfl⟩
theorem zone_occ (z : D.Zone) (hz : z.Rules = []) (ho : -64800 ≤ z.Offset ∧ z.Offset ≤ 64800) :
    SpecIs Tryz.prog 170 [(.agg [(vS z.Name), (vI z.Offset), (.p (.sl false 7 (z.Rules.map D.YearRule.cells)))])] [] (.tup [(.p (.sl true 0 [])), (vI 0)]) [] := by
 refine Spec.intro Tryz.func170 rfl (by kernel_rfl) ?_
 intro Γ hGn hGk
 replace hGn : Γ.n = 86 := hGn
 replace hGk : Γ.names = [] := hGk
 have hrl : z.Rules.length = 0 := by rw [hz]; rfl
 let a'1 : AV := (.p (.sl false 7 (z.Rules.map D.YearRule.cells)))
 refine AWp.weaken (mk [(0, (.agg [(vS z.Name), (vI z.Offset), a'1]))] []) (Weak.sub' hGk (by kernel_rfl)) ?_
 let a'2 : AO := (.box [(vS z.Name), (vI z.Offset), a'1])
 refine AWp.s_reg hGn hGk (aa 3) (Man.aa _ _) [(1, (.ref 1001 0))] [(1001, a'2)] (by kernel_rfl) (by kernel_rfl) ?_
 refine AWp.seq ?_
 refine AWp.s_reg hGn hGk [.a, .a, .m (some 16) ⟨[(15, (vI z.Offset))], [], (vB true), [], []⟩, .a] ⟨StepOK.p rfl rfl rfl (OpOK.call rfl (by kernel_rfl) rfl (by have hq := (zone_in z.Offset ((-64800) : Int) (64800 : Int)); rw [(inB_true (by omega))] at hq; exact hq) (by kernel_rfl)), trivial⟩ [(1, (.ref 1001 0)), (17, (vB false))] [(1001, a'2)] (by kernel_rfl) (by kernel_rfl) ?_
 refine AWp.cond_false rfl ?_
 refine AWp.skip ?_
 refine nextQ_normal ?_
 refine AWp.seq ?_
 refine AWp.s_reg hGn hGk [.a, .a, .m (some 20) ⟨[(19, a'1)], [], (vI ((z.Rules.length : Nat) : Int)), [], []⟩, .m (some 21) ⟨[(20, (vI ((z.Rules.length : Nat) : Int)))], [], (vB false), [], []⟩] ⟨StepOK.p rfl rfl rfl (OpOK.lenP (e := 162) rfl rfl (by kernel_rfl) rfl (by rw [List.length_map])),
  StepOK.p rfl rfl rfl (OpOK.gtr rfl rfl rfl (decide_eq_false (by omega))), trivial⟩ [(1, (.ref 1001 0)), (21, (vB false))] [(1001, a'2)] (by kernel_rfl) (by kernel_rfl) ?_
 refine AWp.cond_false rfl ?_
 refine AWp.skip ?_
 refine nextQ_normal ?_
 refine AWp.s_reg hGn hGk (aa 1) (Man.aa _ _) [(1, (.ref 1001 0)), (4, (vI 0))] [(1001, a'2)] (by kernel_rfl) (by kernel_rfl) ?_
 refine AWp.seq ?_
 refine AWp.s_reg hGn hGk [.a, .a, .m (some 24) ⟨[(23, a'1)], [], (vI ((z.Rules.length : Nat) : Int)), [], []⟩, .a] ⟨StepOK.p rfl rfl rfl (OpOK.lenP (e := 162) rfl rfl (by kernel_rfl) rfl (by rw [List.length_map])), trivial⟩ [(1, (.ref 1001 0)), (4, (vI 0)), (23, a'1), (24, (vI ((z.Rules.length : Nat) : Int))), (25, (vI 0))] [(1001, a'2)] (by kernel_rfl) (by kernel_rfl) ?_
 refine AWp.block ?_
 refine AWp.loop (fun m s =>  s = (mk [(1, (.ref 1001 0)), (4, (vI 0)), (23, (.p (.sl false 7 (z.Rules.map D.YearRule.cells)))), (24, (vI ((z.Rules.length : Nat) : Int))), (25, (vI 0))] [(1001, (.box [(vS z.Name), (vI z.Offset), (.p (.sl false 7 (z.Rules.map D.YearRule.cells)))]))]) ∧ m = 0)
  ⟨_, rfl, rfl⟩ ?_
 rintro mm1 s ⟨rfl, hmm1⟩
 refine AWp.s_reg hGn hGk [.m (some 26) ⟨[(25, (vI 0)), (24, (vI ((z.Rules.length : Nat) : Int)))], [], (vB false), [], []⟩] ⟨StepOK.p rfl rfl rfl (OpOK.lss rfl rfl rfl (decide_eq_false (by omega))), trivial⟩ [(1, (.ref 1001 0)), (4, (vI 0)), (23, a'1), (24, (vI ((z.Rules.length : Nat) : Int))), (25, (vI 0)), (26, (vB false))] [(1001, a'2)] (by kernel_rfl) (by kernel_rfl) ?_
 refine AWp.seq ?_
 refine AWp.cond_false rfl ?_
 refine AWp.weaken (mk [(1, (.ref 1001 0)), (4, (vI 0))] [(1001, a'2)]) (Weak.sub' hGk (by kernel_rfl)) ?_
 refine AWp.exit ?_
 refine nextQ_exit ?_
 refine nextQ_exit ?_
 refine blockQ_exit ?_
 refine nextQ_normal ?_
 refine AWp.seq ?_
 refine AWp.s_reg hGn hGk (aa 2) (Man.aa _ _) [(1, (.ref 1001 0)), (44, (vB false))] [(1001, a'2)] (by kernel_rfl) (by kernel_rfl) ?_
 refine AWp.cond_false rfl ?_
 refine AWp.skip ?_
 refine nextQ_normal ?_
 refine AWp.s_reg hGn hGk (aa 1) (Man.aa _ _) [(1, (.ref 1001 0)), (8, (.p (.sl true 0 [])))] [(1001, a'2)] (by kernel_rfl) (by kernel_rfl) ?_
 refine AWp.seq ?_
 refine AWp.s_reg hGn hGk [.a, .a, .m (some 47) ⟨[(46, a'1)], [], (vI ((z.Rules.length : Nat) : Int)), [], []⟩, .a] ⟨StepOK.p rfl rfl rfl (OpOK.lenP (e := 162) rfl rfl (by kernel_rfl) rfl (by rw [List.length_map])), trivial⟩ [(8, (.p (.sl true 0 []))), (46, a'1), (47, (vI ((z.Rules.length : Nat) : Int))), (48, (vI 0))] [] (by kernel_rfl) (by kernel_rfl) ?_
 refine AWp.block ?_
 refine AWp.loop (fun m s =>  s = (mk [(8, (.p (.sl true 0 []))), (46, (.p (.sl false 7 (z.Rules.map D.YearRule.cells)))), (47, (vI ((z.Rules.length : Nat) : Int))), (48, (vI 0))] []) ∧ m = 0)
  ⟨_, rfl, rfl⟩ ?_
 rintro mm2 s ⟨rfl, hmm2⟩
 refine AWp.s_reg hGn hGk [.m (some 49) ⟨[(48, (vI 0)), (47, (vI ((z.Rules.length : Nat) : Int)))], [], (vB false), [], []⟩] ⟨StepOK.p rfl rfl rfl (OpOK.lss rfl rfl rfl (decide_eq_false (by omega))), trivial⟩ [(8, (.p (.sl true 0 []))), (46, a'1), (47, (vI ((z.Rules.length : Nat) : Int))), (48, (vI 0)), (49, (vB false))] [] (by kernel_rfl) (by kernel_rfl) ?_
 refine AWp.seq ?_
 refine AWp.cond_false rfl ?_
 refine AWp.weaken (mk [(8, (.p (.sl true 0 [])))] []) (Weak.sub' hGk (by kernel_rfl)) ?_
 refine AWp.exit ?_
 refine nextQ_exit ?_
 refine nextQ_exit ?_
 refine blockQ_exit ?_
 refine nextQ_normal ?_
 refine AWp.s_reg hGn hGk [.a, .m (some 84) ⟨[(83, (.p (.sl true 0 [])))], [], (.tup []), [], []⟩] ⟨StepOK.p rfl rfl rfl (OpOK.call rfl (by kernel_rfl) rfl zone_sort (by kernel_rfl)), trivial⟩ [(8, (.p (.sl true 0 [])))] [] (by kernel_rfl) (by kernel_rfl) ?_
 refine AWp.s_reg hGn hGk (aa 3) (Man.aa _ _) [(2, (.p (.sl true 0 []))), (3, (vI 0))] [] (by kernel_rfl) (by kernel_rfl) ?_
 refine AWp.ret ?_
 refine fin_of (.inr rfl) (v := (.tup [(.p (.sl true 0 [])), (vI 0)])) (Res.many (by kernel_rfl) (Res1s.cons (Res1.tmp rfl) (Res1s.cons (Res1.tmp rfl) Res1s.nil))) (h' := []) rfl rfl ?_
 exact ⟨rfl, rfl⟩
theorem zone_tr (z : D.Zone) (hz : z.Rules = []) (ho : -64800 ≤ z.Offset ∧ z.Offset ≤ 64800) :
    SpecIs Tryz.prog 140 [(.agg [(vS z.Name), (vI z.Offset), (.p (.sl false 7 (z.Rules.map D.YearRule.cells)))])] [] (.tup [(.p (.sl true 0 [])), (vI 0)]) [] := by
 refine Spec.intro Tryz.func140 rfl (by kernel_rfl) ?_
 intro Γ hGn hGk
 replace hGn : Γ.n = 79 := hGn
 replace hGk : Γ.names = [] := hGk
 have hrl : z.Rules.length = 0 := by rw [hz]; rfl
 let a'1 : AV := (.p (.sl false 7 (z.Rules.map D.YearRule.cells)))
 refine AWp.weaken (mk [(0, (.agg [(vS z.Name), (vI z.Offset), a'1]))] []) (Weak.sub' hGk (by kernel_rfl)) ?_
 let a'2 : AO := (.box [(vS z.Name), (vI z.Offset), a'1])
 refine AWp.s_reg hGn hGk (aa 3) (Man.aa _ _) [(1, (.ref 1001 0))] [(1001, a'2)] (by kernel_rfl) (by kernel_rfl) ?_
 refine AWp.s_reg hGn hGk [.a, .m (some 14) ⟨[(13, (.agg [(vS z.Name), (vI z.Offset), a'1]))], [], (.tup [(.p (.sl true 0 [])), (vI 0)]), [], []⟩, .a, .a, .a, .a, .a] ⟨StepOK.p rfl rfl rfl (OpOK.call rfl (by kernel_rfl) rfl (zone_occ z hz ho) (by kernel_rfl)), trivial⟩ [(1, (.ref 1001 0)), (4, (.p (.sl true 0 []))), (5, (vI 0))] [(1001, a'2)] (by kernel_rfl) (by kernel_rfl) ?_
 refine AWp.seq ?_
 refine AWp.s_reg hGn hGk (aa 2) (Man.aa _ _) [(1, (.ref 1001 0)), (4, (.p (.sl true 0 []))), (5, (vI 0)), (18, (vB false))] [(1001, a'2)] (by kernel_rfl) (by kernel_rfl) ?_
 refine AWp.cond_false rfl ?_
 refine AWp.skip ?_
 refine nextQ_normal ?_
 refine AWp.s_reg hGn hGk (aa 1) (Man.aa _ _) [(1, (.ref 1001 0)), (4, (.p (.sl true 0 []))), (6, (.p (.sl true 0 [])))] [(1001, a'2)] (by kernel_rfl) (by kernel_rfl) ?_
 refine AWp.s_reg hGn hGk (aa 3) (Man.aa _ _) [(4, (.p (.sl true 0 []))), (6, (.p (.sl true 0 []))), (7, (vI z.Offset))] [] (by kernel_rfl) (by kernel_rfl) ?_
 refine AWp.seq ?_
 refine AWp.s_reg hGn hGk [.a, .m (some 23) ⟨[(22, (.p (.sl true 0 [])))], [], (vI 0), [], []⟩, .a] ⟨StepOK.p rfl rfl rfl (OpOK.lenP (e := 223) rfl rfl (by kernel_rfl) rfl rfl), trivial⟩ [(6, (.p (.sl true 0 []))), (7, (vI z.Offset)), (22, (.p (.sl true 0 []))), (23, (vI 0)), (24, (vI 0))] [] (by kernel_rfl) (by kernel_rfl) ?_
 refine AWp.block ?_
 refine AWp.loop (fun m s =>  s = (mk [(6, (.p (.sl true 0 []))), (7, (vI z.Offset)), (22, (.p (.sl true 0 []))), (23, (vI 0)), (24, (vI 0))] []) ∧ m = 0)
  ⟨_, rfl, rfl⟩ ?_
 rintro mm1 s ⟨rfl, hmm1⟩
 refine AWp.s_reg hGn hGk (aa 1) (Man.aa _ _) [(6, (.p (.sl true 0 []))), (7, (vI z.Offset)), (22, (.p (.sl true 0 []))), (23, (vI 0)), (24, (vI 0)), (25, (vB false))] [] (by kernel_rfl) (by kernel_rfl) ?_
 refine AWp.seq ?_
 refine AWp.cond_false rfl ?_
 refine AWp.weaken (mk [(6, (.p (.sl true 0 [])))] []) (Weak.sub' hGk (by kernel_rfl)) ?_
 refine AWp.exit ?_
 refine nextQ_exit ?_
 refine nextQ_exit ?_
 refine blockQ_exit ?_
 refine nextQ_normal ?_
 refine AWp.s_reg hGn hGk (aa 3) (Man.aa _ _) [(2, (.p (.sl true 0 []))), (3, (vI 0))] [] (by kernel_rfl) (by kernel_rfl) ?_
 refine AWp.ret ?_
 refine fin_of (.inr rfl) (v := (.tup [(.p (.sl true 0 [])), (vI 0)])) (Res.many (by kernel_rfl) (Res1s.cons (Res1.tmp rfl) (Res1s.cons (Res1.tmp rfl) Res1s.nil))) (h' := []) rfl rfl ?_
 exact ⟨rfl, rfl⟩
theorem zone_Check (z : D.Zone) (hz : z.Rules = []) (ho : -64800 ≤ z.Offset ∧ z.Offset ≤ 64800) :
    SpecIs Tryz.prog 101 [(.agg [(vS z.Name), (vI z.Offset), (.p (.sl false 7 (z.Rules.map D.YearRule.cells)))])] [] (vI 0) [] := by
 refine Spec.intro Tryz.func101 rfl (by kernel_rfl) ?_
 intro Γ hGn hGk
 replace hGn : Γ.n = 11 := hGn
 replace hGk : Γ.names = [] := hGk
 let a'1 : AV := (.p (.sl false 7 (z.Rules.map D.YearRule.cells)))
 refine AWp.weaken (mk [(0, (.agg [(vS z.Name), (vI z.Offset), a'1]))] []) (Weak.sub' hGk (by kernel_rfl)) ?_
 refine AWp.s_reg hGn hGk (aa 2) (Man.aa _ _) [(1, (.ref 1001 0))] [(1001, (.box [(vS z.Name), (vI z.Offset), a'1]))] (by kernel_rfl) (by kernel_rfl) ?_
 refine AWp.s_reg hGn hGk [.a, .m (some 7) ⟨[(6, (.agg [(vS z.Name), (vI z.Offset), a'1]))], [], (.tup [(.p (.sl true 0 [])), (vI 0)]), [], []⟩, .a, .a, .a, .a, .a] ⟨StepOK.p rfl rfl rfl (OpOK.call rfl (by kernel_rfl) rfl (zone_tr z hz ho) (by kernel_rfl)), trivial⟩ [(4, (vI 0))] [] (by kernel_rfl) (by kernel_rfl) ?_
 refine AWp.s_reg hGn hGk (aa 2) (Man.aa _ _) [(2, (vI 0))] [] (by kernel_rfl) (by kernel_rfl) ?_
 refine AWp.ret ?_
 refine fin_of (.inr rfl) (v := (vI 0)) (Res.tmp rfl rfl) (h' := []) rfl rfl ?_
 exact ⟨rfl, rfl⟩
theorem zone_idx (z : D.Zone) (hz : z.Rules = []) :
    SpecIs Tryz.prog 141 [(.p (.sl false 7 (z.Rules.map D.YearRule.cells))), (.p (.v (.func (.func 103) #[] #[])))] [] (vI (-1)) [] := by
 refine Spec.intro Tryz.func141 rfl (by kernel_rfl) ?_
 intro Γ hGn hGk
 replace hGn : Γ.n = 19 := hGn
 replace hGk : Γ.names = [] := hGk
 have hrl : z.Rules.length = 0 := by rw [hz]; rfl
 let a'1 : AV := (.p (.sl false 7 (z.Rules.map D.YearRule.cells)))
 refine AWp.weaken (mk [(0, a'1), (1, (.p (.v (.func (.func 103) #[] #[]))))] []) (Weak.sub' hGk (by kernel_rfl)) ?_
 refine AWp.s_reg hGn hGk (aa 1) (Man.aa _ _) [(0, a'1), (1, (.p (.v (.func (.func 103) #[] #[]))))] [] (by kernel_rfl) (by kernel_rfl) ?_
 refine AWp.seq ?_
 refine AWp.s_reg hGn hGk [.a, .m (some 7) ⟨[(6, a'1)], [], (vI ((z.Rules.length : Nat) : Int)), [], []⟩, .a] ⟨StepOK.p rfl rfl rfl (OpOK.lenP (e := 162) rfl rfl (by kernel_rfl) rfl (by rw [List.length_map])), trivial⟩ [(0, a'1), (1, (.p (.v (.func (.func 103) #[] #[])))), (7, (vI ((z.Rules.length : Nat) : Int))), (8, (vI 0))] [] (by kernel_rfl) (by kernel_rfl) ?_
 refine AWp.block ?_
 refine AWp.loop (fun m s =>  s = (mk [(0, (.p (.sl false 7 (z.Rules.map D.YearRule.cells)))), (1, (.p (.v (.func (.func 103) #[] #[])))), (7, (vI ((z.Rules.length : Nat) : Int))), (8, (vI 0))] []) ∧ m = 0)
  ⟨_, rfl, rfl⟩ ?_
 rintro mm1 s ⟨rfl, hmm1⟩
 refine AWp.s_reg hGn hGk [.m (some 9) ⟨[(8, (vI 0)), (7, (vI ((z.Rules.length : Nat) : Int)))], [], (vB false), [], []⟩] ⟨StepOK.p rfl rfl rfl (OpOK.lss rfl rfl rfl (decide_eq_false (by omega))), trivial⟩ [(0, a'1), (1, (.p (.v (.func (.func 103) #[] #[])))), (7, (vI ((z.Rules.length : Nat) : Int))), (8, (vI 0)), (9, (vB false))] [] (by kernel_rfl) (by kernel_rfl) ?_
 refine AWp.seq ?_
 refine AWp.cond_false rfl ?_
 refine AWp.weaken (mk [] []) (Weak.sub' hGk (by kernel_rfl)) ?_
 refine AWp.exit ?_
 refine nextQ_exit ?_
 refine nextQ_exit ?_
 refine blockQ_exit ?_
 refine nextQ_normal ?_
 refine AWp.s_reg hGn hGk (aa 1) (Man.aa _ _) [(4, (vI (-1)))] [] (by kernel_rfl) (by kernel_rfl) ?_
 refine AWp.ret ?_
 refine fin_of (.inr rfl) (v := (vI (-1))) (Res.tmp rfl rfl) (h' := []) rfl rfl ?_
 exact ⟨rfl, rfl⟩
theorem zone_cont (z : D.Zone) (hz : z.Rules = []) :
    SpecIs Tryz.prog 102 [(.p (.sl false 7 (z.Rules.map D.YearRule.cells))), (.p (.v (.func (.func 103) #[] #[])))] [] (vB false) [] := by
 refine Spec.intro Tryz.func102 rfl (by kernel_rfl) ?_
 intro Γ hGn hGk
 replace hGn : Γ.n = 9 := hGn
 replace hGk : Γ.names = [] := hGk
 have hrl : z.Rules.length = 0 := by rw [hz]; rfl
 let a'1 : AV := (.p (.sl false 7 (z.Rules.map D.YearRule.cells)))
 refine AWp.weaken (mk [(0, a'1), (1, (.p (.v (.func (.func 103) #[] #[]))))] []) (Weak.sub' hGk (by kernel_rfl)) ?_
 refine AWp.s_reg hGn hGk (aa 1) (Man.aa _ _) [(0, a'1), (1, (.p (.v (.func (.func 103) #[] #[]))))] [] (by kernel_rfl) (by kernel_rfl) ?_
 refine AWp.s_reg hGn hGk [.a, .a, .m (some 7) ⟨[(5, a'1), (6, (.p (.v (.func (.func 103) #[] #[]))))], [], (vI (-1)), [], []⟩, .a, .a] ⟨StepOK.p rfl rfl rfl (OpOK.call rfl (by kernel_rfl) rfl (zone_idx z hz) (by kernel_rfl)), trivial⟩ [(4, (vB false))] [] (by kernel_rfl) (by kernel_rfl) ?_
 refine AWp.ret ?_
 refine fin_of (.inr rfl) (v := (vB false)) (Res.tmp rfl rfl) (h' := []) rfl rfl ?_
 exact ⟨rfl, rfl⟩
theorem res_zone (z : D.Zone) (hz : z.Rules = []) (ho : -64800 ≤ z.Offset ∧ z.Offset ≤ 64800) (hm : z.Offset % 60 = 0) :
    SpecIs Tryz.prog 67 [(.agg [(vS z.Name), (vI z.Offset), (.p (.sl false 7 (z.Rules.map D.YearRule.cells)))])] [] (vI 0) [] := by
 refine Spec.intro Tryz.func67 rfl (by kernel_rfl) ?_
 intro Γ hGn hGk
 replace hGn : Γ.n = 17 := hGn
 replace hGk : Γ.names = [] := hGk
 have hm0 : z.Offset.tmod 60 = 0 := Int.tmod_eq_zero_of_dvd (Int.dvd_of_emod_eq_zero hm)
 let a'1 : AV := (.p (.sl false 7 (z.Rules.map D.YearRule.cells)))
 refine AWp.weaken (mk [(0, (.agg [(vS z.Name), (vI z.Offset), a'1]))] []) (Weak.sub' hGk (by kernel_rfl)) ?_
 refine AWp.s_reg hGn hGk (aa 2) (Man.aa _ _) [(1, (.ref 1001 0))] [(1001, (.box [(vS z.Name), (vI z.Offset), a'1]))] (by kernel_rfl) (by kernel_rfl) ?_
 refine AWp.seq ?_
 refine AWp.s_reg hGn hGk [.a, .m (some 4) ⟨[(3, (.agg [(vS z.Name), (vI z.Offset), a'1]))], [], (vI 0), [], []⟩, .a, .a, .a, .a, .m (some 9) ⟨[(8, (vI z.Offset)), (6, (vB false))], [], (vI 0), [], []⟩, .a, .a, .a, .a, .a, .m (some 15) ⟨[(14, a'1), (12, (vB false))], [], (vB false), [], []⟩, .a] ⟨StepOK.p rfl rfl rfl (OpOK.call rfl (by kernel_rfl) rfl (zone_Check z hz ho) (by kernel_rfl)),
  StepOK.g rfl rfl rfl rfl rfl (by simp) (OpOK.rem rfl rfl rfl (by omega) hm0),
  StepOK.g rfl rfl rfl rfl rfl (by simp) (OpOK.call rfl (by kernel_rfl) rfl (zone_cont z hz) (by kernel_rfl)), trivial⟩ [(16, (vB false))] [] (by kernel_rfl) (by kernel_rfl) ?_
 refine AWp.cond_false rfl ?_
 refine AWp.skip ?_
 refine nextQ_normal ?_
 refine AWp.s_reg hGn hGk (aa 1) (Man.aa _ _) [(2, (vI 0))] [] (by kernel_rfl) (by kernel_rfl) ?_
 refine AWp.ret ?_
 refine fin_of (.inr rfl) (v := (vI 0)) (Res.tmp rfl rfl) (h' := []) rfl rfl ?_
 exact ⟨rfl, rfl⟩
theorem civ_floor (a b : Int) (ha : 0 ≤ a ∧ a ≤ 1000000) (hb : 1 ≤ b ∧ b ≤ 1000) :
    SpecIs Tryz.prog 196 [(vI a), (vI b)] [] (vI (a / b)) [] := by
 refine Spec.intro Tryz.func196 rfl (by kernel_rfl) ?_
 intro Γ hGn hGk
 replace hGn : Γ.n = 16 := hGn
 replace hGk : Γ.names = [] := hGk
 refine AWp.weaken (mk [(0, (vI a)), (1, (vI b))] []) (Weak.sub' hGk (by kernel_rfl)) ?_
 refine AWp.s_reg hGn hGk (aa 1) (Man.aa _ _) [(0, (vI a)), (1, (vI b))] [] (by kernel_rfl) (by kernel_rfl) ?_
 refine AWp.s_reg hGn hGk [.a, .a, .m (some 8) ⟨[(6, (vI a)), (7, (vI b))], [], (vI (a / b)), [], []⟩, .a] ⟨StepOK.p rfl rfl rfl (OpOK.quo rfl rfl rfl (by omega) (by rw [Int.tdiv_eq_ediv_of_nonneg (by omega)]; exact IntWalk.i64_in _ (by have h1 := Int.ediv_nonneg ha.1 (show 0 ≤ b by omega); have h2 := Int.ediv_le_self b ha.1; omega))), trivial⟩ [(0, (vI a)), (1, (vI b)), (5, (vI (a / b)))] [] (by kernel_rfl) (by kernel_rfl) ?_
 refine AWp.seq ?_
 refine AWp.s_reg hGn hGk [.a, .a, .m (some 11) ⟨[(9, (vI a)), (10, (vI b))], [], (vI (a % b)), [], []⟩, .m (some 12) ⟨[(11, (vI (a % b)))], [], (vB false), [], []⟩] ⟨StepOK.p rfl rfl rfl (OpOK.rem rfl rfl rfl (by omega) (Int.tmod_eq_emod_of_nonneg (by omega))),
  StepOK.p rfl rfl rfl (OpOK.lss rfl rfl rfl (decide_eq_false (by have := Int.emod_nonneg a (b := b) (by omega); omega))), trivial⟩ [(5, (vI (a / b))), (12, (vB false))] [] (by kernel_rfl) (by kernel_rfl) ?_
 refine AWp.cond_false rfl ?_
 refine AWp.skip ?_
 refine nextQ_normal ?_
 refine AWp.s_reg hGn hGk (aa 2) (Man.aa _ _) [(4, (vI (a / b)))] [] (by kernel_rfl) (by kernel_rfl) ?_
 refine AWp.ret ?_
 refine fin_of (.inr rfl) (v := (vI (a / b))) (Res.tmp rfl rfl) (h' := []) rfl rfl ?_
 exact ⟨rfl, rfl⟩
theorem civ_count1970  :
    SpecIs Tryz.prog 172 [(vI 1970)] [] (vI 0) [] := by
 refine Spec.intro Tryz.func172 rfl (by kernel_rfl) ?_
 intro Γ hGn hGk
 replace hGn : Γ.n = 19 := hGn
 replace hGk : Γ.names = [] := hGk
 refine AWp.weaken (mk [(0, (vI 1970))] []) (Weak.sub' hGk (by kernel_rfl)) ?_
 refine AWp.s_reg hGn hGk (aa 1) (Man.aa _ _) [(0, (vI 1970))] [] (by kernel_rfl) (by kernel_rfl) ?_
 refine AWp.s_reg hGn hGk [.a, .m (some 5) ⟨[(4, (vI 1970))], [], (vI 1969), [], []⟩, .a] ⟨StepOK.p rfl rfl rfl (OpOK.sub rfl rfl rfl (by decide)), trivial⟩ [(0, (vI 1970)), (3, (vI 1969))] [] (by kernel_rfl) (by kernel_rfl) ?_
 refine AWp.s_reg hGn hGk [.a, .m (some 7) ⟨[(6, (vI 1970))], [], (vI 0), [], []⟩, .m (some 8) ⟨[(7, (vI 0))], [], (vI 0), [], []⟩, .a, .m (some 10) ⟨[(9, (vI 1969))], [], (vI 492), [], []⟩, .m (some 11) ⟨[(8, (vI 0)), (10, (vI 492))], [], (vI 492), [], []⟩, .a, .m (some 13) ⟨[(12, (vI 1969))], [], (vI 19), [], []⟩, .m (some 14) ⟨[(11, (vI 492)), (13, (vI 19))], [], (vI 473), [], []⟩, .a, .m (some 16) ⟨[(15, (vI 1969))], [], (vI 4), [], []⟩, .m (some 17) ⟨[(14, (vI 473)), (16, (vI 4))], [], (vI 477), [], []⟩, .m (some 18) ⟨[(17, (vI 477))], [], (vI 0), [], []⟩, .a] ⟨StepOK.p rfl rfl rfl (OpOK.sub rfl rfl rfl (by decide)),
  StepOK.p rfl rfl rfl (OpOK.mul rfl rfl rfl (by decide)),
  StepOK.p rfl rfl rfl (OpOK.call rfl (by kernel_rfl) rfl (civ_floor 1969 4 (by omega) (by omega)) (by kernel_rfl)),
  StepOK.p rfl rfl rfl (OpOK.add rfl rfl rfl (by decide)),
  StepOK.p rfl rfl rfl (OpOK.call rfl (by kernel_rfl) rfl (civ_floor 1969 100 (by omega) (by omega)) (by kernel_rfl)),
  StepOK.p rfl rfl rfl (OpOK.sub rfl rfl rfl (by decide)),
  StepOK.p rfl rfl rfl (OpOK.call rfl (by kernel_rfl) rfl (civ_floor 1969 400 (by omega) (by omega)) (by kernel_rfl)),
  StepOK.p rfl rfl rfl (OpOK.add rfl rfl rfl (by decide)),
  StepOK.p rfl rfl rfl (OpOK.sub rfl rfl rfl (by decide)), trivial⟩ [(2, (vI 0))] [] (by kernel_rfl) (by kernel_rfl) ?_
 refine AWp.ret ?_
 refine fin_of (.inr rfl) (v := (vI 0)) (Res.tmp rfl rfl) (h' := []) rfl rfl ?_
 exact ⟨rfl, rfl⟩
theorem civ_count1971  :
    SpecIs Tryz.prog 172 [(vI 1971)] [] (vI 365) [] := by
 refine Spec.intro Tryz.func172 rfl (by kernel_rfl) ?_
 intro Γ hGn hGk
 replace hGn : Γ.n = 19 := hGn
 replace hGk : Γ.names = [] := hGk
 refine AWp.weaken (mk [(0, (vI 1971))] []) (Weak.sub' hGk (by kernel_rfl)) ?_
 refine AWp.s_reg hGn hGk (aa 1) (Man.aa _ _) [(0, (vI 1971))] [] (by kernel_rfl) (by kernel_rfl) ?_
 refine AWp.s_reg hGn hGk [.a, .m (some 5) ⟨[(4, (vI 1971))], [], (vI 1970), [], []⟩, .a] ⟨StepOK.p rfl rfl rfl (OpOK.sub rfl rfl rfl (by decide)), trivial⟩ [(0, (vI 1971)), (3, (vI 1970))] [] (by kernel_rfl) (by kernel_rfl) ?_
 refine AWp.s_reg hGn hGk [.a, .m (some 7) ⟨[(6, (vI 1971))], [], (vI 1), [], []⟩, .m (some 8) ⟨[(7, (vI 1))], [], (vI 365), [], []⟩, .a, .m (some 10) ⟨[(9, (vI 1970))], [], (vI 492), [], []⟩, .m (some 11) ⟨[(8, (vI 365)), (10, (vI 492))], [], (vI 857), [], []⟩, .a, .m (some 13) ⟨[(12, (vI 1970))], [], (vI 19), [], []⟩, .m (some 14) ⟨[(11, (vI 857)), (13, (vI 19))], [], (vI 838), [], []⟩, .a, .m (some 16) ⟨[(15, (vI 1970))], [], (vI 4), [], []⟩, .m (some 17) ⟨[(14, (vI 838)), (16, (vI 4))], [], (vI 842), [], []⟩, .m (some 18) ⟨[(17, (vI 842))], [], (vI 365), [], []⟩, .a] ⟨StepOK.p rfl rfl rfl (OpOK.sub rfl rfl rfl (by decide)),
  StepOK.p rfl rfl rfl (OpOK.mul rfl rfl rfl (by decide)),
  StepOK.p rfl rfl rfl (OpOK.call rfl (by kernel_rfl) rfl (civ_floor 1970 4 (by omega) (by omega)) (by kernel_rfl)),
  StepOK.p rfl rfl rfl (OpOK.add rfl rfl rfl (by decide)),
  StepOK.p rfl rfl rfl (OpOK.call rfl (by kernel_rfl) rfl (civ_floor 1970 100 (by omega) (by omega)) (by kernel_rfl)),
  StepOK.p rfl rfl rfl (OpOK.sub rfl rfl rfl (by decide)),
  StepOK.p rfl rfl rfl (OpOK.call rfl (by kernel_rfl) rfl (civ_floor 1970 400 (by omega) (by omega)) (by kernel_rfl)),
  StepOK.p rfl rfl rfl (OpOK.add rfl rfl rfl (by decide)),
  StepOK.p rfl rfl rfl (OpOK.sub rfl rfl rfl (by decide)), trivial⟩ [(2, (vI 365))] [] (by kernel_rfl) (by kernel_rfl) ?_
 refine AWp.ret ?_
 refine fin_of (.inr rfl) (v := (vI 365)) (Res.tmp rfl rfl) (h' := []) rfl rfl ?_
 exact ⟨rfl, rfl⟩
theorem civ_count2241  :
    SpecIs Tryz.prog 172 [(vI 2241)] [] (vI 98981) [] := by
 refine Spec.intro Tryz.func172 rfl (by kernel_rfl) ?_
 intro Γ hGn hGk
 replace hGn : Γ.n = 19 := hGn
 replace hGk : Γ.names = [] := hGk
 refine AWp.weaken (mk [(0, (vI 2241))] []) (Weak.sub' hGk (by kernel_rfl)) ?_
 refine AWp.s_reg hGn hGk (aa 1) (Man.aa _ _) [(0, (vI 2241))] [] (by kernel_rfl) (by kernel_rfl) ?_
 refine AWp.s_reg hGn hGk [.a, .m (some 5) ⟨[(4, (vI 2241))], [], (vI 2240), [], []⟩, .a] ⟨StepOK.p rfl rfl rfl (OpOK.sub rfl rfl rfl (by decide)), trivial⟩ [(0, (vI 2241)), (3, (vI 2240))] [] (by kernel_rfl) (by kernel_rfl) ?_
 refine AWp.s_reg hGn hGk [.a, .m (some 7) ⟨[(6, (vI 2241))], [], (vI 271), [], []⟩, .m (some 8) ⟨[(7, (vI 271))], [], (vI 98915), [], []⟩, .a, .m (some 10) ⟨[(9, (vI 2240))], [], (vI 560), [], []⟩, .m (some 11) ⟨[(8, (vI 98915)), (10, (vI 560))], [], (vI 99475), [], []⟩, .a, .m (some 13) ⟨[(12, (vI 2240))], [], (vI 22), [], []⟩, .m (some 14) ⟨[(11, (vI 99475)), (13, (vI 22))], [], (vI 99453), [], []⟩, .a, .m (some 16) ⟨[(15, (vI 2240))], [], (vI 5), [], []⟩, .m (some 17) ⟨[(14, (vI 99453)), (16, (vI 5))], [], (vI 99458), [], []⟩, .m (some 18) ⟨[(17, (vI 99458))], [], (vI 98981), [], []⟩, .a] ⟨StepOK.p rfl rfl rfl (OpOK.sub rfl rfl rfl (by decide)),
  StepOK.p rfl rfl rfl (OpOK.mul rfl rfl rfl (by decide)),
  StepOK.p rfl rfl rfl (OpOK.call rfl (by kernel_rfl) rfl (civ_floor 2240 4 (by omega) (by omega)) (by kernel_rfl)),
  StepOK.p rfl rfl rfl (OpOK.add rfl rfl rfl (by decide)),
  StepOK.p rfl rfl rfl (OpOK.call rfl (by kernel_rfl) rfl (civ_floor 2240 100 (by omega) (by omega)) (by kernel_rfl)),
  StepOK.p rfl rfl rfl (OpOK.sub rfl rfl rfl (by decide)),
  StepOK.p rfl rfl rfl (OpOK.call rfl (by kernel_rfl) rfl (civ_floor 2240 400 (by omega) (by omega)) (by kernel_rfl)),
  StepOK.p rfl rfl rfl (OpOK.add rfl rfl rfl (by decide)),
  StepOK.p rfl rfl rfl (OpOK.sub rfl rfl rfl (by decide)), trivial⟩ [(2, (vI 98981))] [] (by kernel_rfl) (by kernel_rfl) ?_
 refine AWp.ret ?_
 refine fin_of (.inr rfl) (v := (vI 98981)) (Res.tmp rfl rfl) (h' := []) rfl rfl ?_
 exact ⟨rfl, rfl⟩
theorem civ_Days  :
    SpecIs Tryz.prog 174 [(vI 1970), (vI 1)] [] (vI 31) [] := by
 refine Spec.intro Tryz.func174 rfl (by kernel_rfl) ?_
 intro Γ hGn hGk
 replace hGn : Γ.n = 24 := hGn
 replace hGk : Γ.names = [] := hGk
 refine AWp.weaken (mk [(0, (vI 1970)), (1, (vI 1))] []) (Weak.sub' hGk (by kernel_rfl)) ?_
 refine AWp.s_reg hGn hGk (aa 1) (Man.aa _ _) [(0, (vI 1970)), (1, (vI 1))] [] (by kernel_rfl) (by kernel_rfl) ?_
 refine AWp.seq ?_
 refine AWp.s_reg hGn hGk (aa 6) (Man.aa _ _) [(0, (vI 1970)), (1, (vI 1)), (11, (vB false))] [] (by kernel_rfl) (by kernel_rfl) ?_
 refine AWp.cond_false rfl ?_
 refine AWp.skip ?_
 refine nextQ_normal ?_
 let a'1 : AO := (.box [(vI 31), (vI 28), (vI 31), (vI 30), (vI 31), (vI 30), (vI 31), (vI 31), (vI 30), (vI 31), (vI 30), (vI 31)])
 refine AWp.s_reg hGn hGk [.m (some 12) ⟨[], [], (.agg [(vI 31), (vI 28), (vI 31), (vI 30), (vI 31), (vI 30), (vI 31), (vI 31), (vI 30), (vI 31), (vI 30), (vI 31)]), [], []⟩, .a, .a] ⟨StepOK.p rfl rfl rfl (OpOK.buildArr (e := 3) (n := 12) (es := 1) (zs := [(vI 0), (vI 0), (vI 0), (vI 0), (vI 0), (vI 0), (vI 0), (vI 0), (vI 0), (vI 0), (vI 0), (vI 0)]) rfl (by kernel_rfl) (by kernel_rfl) (by kernel_rfl) rfl), trivial⟩ [(0, (vI 1970)), (1, (vI 1)), (5, (.ref 1005 0))] [(1005, a'1)] (by kernel_rfl) (by kernel_rfl) ?_
 refine AWp.seq ?_
 refine AWp.block ?_
 refine AWp.s_reg hGn hGk (aa 7) (Man.aa _ _) [(1, (vI 1)), (5, (.ref 1005 0)), (13, (vB false))] [(1005, a'1)] (by kernel_rfl) (by kernel_rfl) ?_
 refine AWp.cond_false rfl ?_
 refine AWp.skip ?_
 refine blockQ_normal ?_
 refine nextQ_normal ?_
 refine AWp.s_reg hGn hGk [.a, .m (some 21) ⟨[(20, (vI 1))], [], (vI 0), [], []⟩, .m (some 22) ⟨[(5, (.ref 1005 0)), (21, (vI 0))], [(1005, a'1)], (.ref 1005 0), [], []⟩, .a, .a] ⟨StepOK.p rfl rfl rfl (OpOK.sub rfl rfl rfl (by decide)),
  StepOK.p rfl rfl rfl (OpOK.indexArr (e := 3) (len := 12) (es := 1) (i := 0) rfl (by kernel_rfl) (by kernel_rfl) rfl rfl rfl (by decide) rfl), trivial⟩ [(4, (vI 31))] [] (by kernel_rfl) (by kernel_rfl) ?_
 refine AWp.ret ?_
 refine fin_of (.inr rfl) (v := (vI 31)) (Res.tmp rfl rfl) (h' := []) rfl rfl ?_
 exact ⟨rfl, rfl⟩
theorem civ_year (d : Int) (hd : 0 ≤ d ∧ d ≤ 30) :
    SpecIs Tryz.prog 173 [(vI d)] [] (vI 1970) [] := by
 refine Spec.intro Tryz.func173 rfl (by kernel_rfl) ?_
 intro Γ hGn hGk
 replace hGn : Γ.n = 15 := hGn
 replace hGk : Γ.names = [] := hGk
 refine AWp.weaken (mk [(0, (vI d))] []) (Weak.sub' hGk (by kernel_rfl)) ?_
 refine AWp.s_reg hGn hGk (aa 1) (Man.aa _ _) [(0, (vI d))] [] (by kernel_rfl) (by kernel_rfl) ?_
 refine AWp.s_reg hGn hGk [.a, .m (some 5) ⟨[(4, (vI d))], [], (vI (d / 366)), [], []⟩, .m (some 6) ⟨[(5, (vI (d / 366)))], [], (vI 1970), [], []⟩, .a] ⟨StepOK.p rfl rfl rfl (OpOK.call rfl (by kernel_rfl) rfl (civ_floor d 366 (by omega) (by omega)) (by kernel_rfl)),
  StepOK.p rfl rfl rfl (OpOK.add rfl rfl rfl (by rw [show d / 366 = 0 by omega]; decide)), trivial⟩ [(0, (vI d)), (3, (vI 1970))] [] (by kernel_rfl) (by kernel_rfl) ?_
 refine AWp.seq ?_
 refine AWp.block ?_
 refine AWp.loop (fun m s =>  s = (mk [(0, (vI d)), (3, (vI 1970))] []) ∧ m = 0)
  ⟨_, rfl, rfl⟩ ?_
 rintro mm1 s ⟨rfl, hmm1⟩
 refine AWp.seq ?_
 refine AWp.s_reg hGn hGk [.a, .m (some 8) ⟨[(7, (vI 1970))], [], (vI 1971), [], []⟩, .m (some 9) ⟨[(8, (vI 1971))], [], (vI 365), [], []⟩, .a, .m (some 11) ⟨[(9, (vI 365)), (10, (vI d))], [], (vB false), [], []⟩] ⟨StepOK.p rfl rfl rfl (OpOK.add rfl rfl rfl (by decide)),
  StepOK.p rfl rfl rfl (OpOK.call rfl (by kernel_rfl) rfl civ_count1971 (by kernel_rfl)),
  StepOK.p rfl rfl rfl (OpOK.leq rfl rfl rfl (decide_eq_false (by omega))), trivial⟩ [(0, (vI d)), (3, (vI 1970)), (11, (vB false))] [] (by kernel_rfl) (by kernel_rfl) ?_
 refine AWp.cond_false rfl ?_
 refine AWp.weaken (mk [(3, (vI 1970))] []) (Weak.sub' hGk (by kernel_rfl)) ?_
 refine AWp.exit ?_
 refine nextQ_exit ?_
 refine nextQ_exit ?_
 refine blockQ_exit ?_
 refine nextQ_normal ?_
 refine AWp.s_reg hGn hGk (aa 2) (Man.aa _ _) [(2, (vI 1970))] [] (by kernel_rfl) (by kernel_rfl) ?_
 refine AWp.ret ?_
 refine fin_of (.inr rfl) (v := (vI 1970)) (Res.tmp rfl rfl) (h' := []) rfl rfl ?_
 exact ⟨rfl, rfl⟩
theorem civ_Date (d : Int) (hd : 0 ≤ d ∧ d ≤ 30) :
    SpecIs Tryz.prog 144 [(vI d)] [] (.tup [(.agg [(vI 1970), (vI 1), (vI (d + 1))]), (vI 0)]) [] := by
 refine Spec.intro Tryz.func144 rfl (by kernel_rfl) ?_
 intro Γ hGn hGk
 replace hGn : Γ.n = 45 := hGn
 replace hGk : Γ.names = [] := hGk
 refine AWp.weaken (mk [(0, (vI d))] []) (Weak.sub' hGk (by kernel_rfl)) ?_
 refine AWp.s_reg hGn hGk (aa 2) (Man.aa _ _) [(0, (vI d)), (2, (.ref 1002 0))] [(1002, (.box [(vI 0), (vI 0), (vI 0)]))] (by kernel_rfl) (by kernel_rfl) ?_
 refine AWp.seq ?_
 refine AWp.s_reg hGn hGk [.a, .m (some 7) ⟨[], [], (vI 0), [], []⟩, .m (some 8) ⟨[(6, (vI d)), (7, (vI 0))], [], (vB false), [], []⟩, .a, .a, .m (some 11) ⟨[(9, (vB false))], [], (vI 98981), [], []⟩, .m (some 12) ⟨[(10, (vI d)), (11, (vI 98981)), (9, (vB false))], [], (vB false), [], []⟩, .a] ⟨StepOK.p rfl rfl rfl (OpOK.call rfl (by kernel_rfl) rfl civ_count1970 (by kernel_rfl)),
  StepOK.p rfl rfl rfl (OpOK.lss rfl rfl rfl (decide_eq_false (by omega))),
  StepOK.g rfl rfl rfl rfl rfl (by simp) (OpOK.call rfl (by kernel_rfl) rfl civ_count2241 (by kernel_rfl)),
  StepOK.g rfl rfl rfl rfl rfl (by simp) (OpOK.geq rfl rfl rfl (decide_eq_false (by omega))), trivial⟩ [(0, (vI d)), (2, (.ref 1002 0)), (13, (vB false))] [(1002, (.box [(vI 0), (vI 0), (vI 0)]))] (by kernel_rfl) (by kernel_rfl) ?_
 refine AWp.cond_false rfl ?_
 refine AWp.skip ?_
 refine nextQ_normal ?_
 let a'1 : AO := (.box [(vI 1970), (vI 1), (vI 0)])
 refine AWp.s_reg hGn hGk [.a, .m (some 16) ⟨[(15, (vI d))], [], (vI 1970), [], []⟩, .a, .a, .a] ⟨StepOK.p rfl rfl rfl (OpOK.call rfl (by kernel_rfl) rfl (civ_year d (by omega)) (by kernel_rfl)), trivial⟩ [(0, (vI d)), (2, (.ref 1002 0)), (4, (.ref 1004 0))] [(1002, (.box [(vI 0), (vI 0), (vI 0)])), (1004, a'1)] (by kernel_rfl) (by kernel_rfl) ?_
 refine AWp.s_reg hGn hGk [.a, .a, .a, .m (some 21) ⟨[(20, (vI 1970))], [], (vI 0), [], []⟩, .m (some 22) ⟨[(18, (vI d)), (21, (vI 0))], [], (vI d), [], []⟩, .a] ⟨StepOK.p rfl rfl rfl (OpOK.call rfl (by kernel_rfl) rfl civ_count1970 (by kernel_rfl)),
  StepOK.p rfl rfl rfl (OpOK.sub rfl rfl rfl (by rw [IntWalk.i64_in _ ⟨by omega, by omega⟩]; omega)), trivial⟩ [(2, (.ref 1002 0)), (4, (.ref 1004 0)), (5, (vI d))] [(1002, (.box [(vI 0), (vI 0), (vI 0)])), (1004, a'1)] (by kernel_rfl) (by kernel_rfl) ?_
 refine AWp.seq ?_
 refine AWp.block ?_
 refine AWp.loop (fun m s =>  s = (mk [(2, (.ref 1002 0)), (4, (.ref 1004 0)), (5, (vI d))] [(1002, (.box [(vI 0), (vI 0), (vI 0)])), (1004, (.box [(vI 1970), (vI 1), (vI 0)]))]) ∧ m = 0)
  ⟨_, rfl, rfl⟩ ?_
 rintro mm1 s ⟨rfl, hmm1⟩
 refine AWp.seq ?_
 refine AWp.s_reg hGn hGk [.a, .a, .a, .a, .a, .m (some 28) ⟨[(25, (vI 1970)), (27, (vI 1))], [], (vI 31), [], []⟩, .m (some 29) ⟨[(23, (vI d)), (28, (vI 31))], [], (vB false), [], []⟩] ⟨StepOK.p rfl rfl rfl (OpOK.call rfl (by kernel_rfl) rfl civ_Days (by kernel_rfl)),
  StepOK.p rfl rfl rfl (OpOK.geq rfl rfl rfl (decide_eq_false (by omega))), trivial⟩ [(2, (.ref 1002 0)), (4, (.ref 1004 0)), (5, (vI d)), (29, (vB false))] [(1002, (.box [(vI 0), (vI 0), (vI 0)])), (1004, a'1)] (by kernel_rfl) (by kernel_rfl) ?_
 refine AWp.cond_false rfl ?_
 refine AWp.weaken (mk [(2, (.ref 1002 0)), (4, (.ref 1004 0)), (5, (vI d))] [(1002, (.box [(vI 0), (vI 0), (vI 0)])), (1004, a'1)]) (Weak.sub' hGk (by kernel_rfl)) ?_
 refine AWp.exit ?_
 refine nextQ_exit ?_
 refine nextQ_exit ?_
 refine blockQ_exit ?_
 refine nextQ_normal ?_
 refine AWp.s_reg hGn hGk [.a, .m (some 42) ⟨[(41, (vI d))], [], (vI (d + 1)), [], []⟩, .a, .a] ⟨StepOK.p rfl rfl rfl (OpOK.add rfl rfl rfl (IntWalk.i64_in _ ⟨by omega, by omega⟩)), trivial⟩ [(2, (.ref 1002 0)), (4, (.ref 1004 0))] [(1002, (.box [(vI 0), (vI 0), (vI 0)])), (1004, (.box [(vI 1970), (vI 1), (vI (d + 1))]))] (by kernel_rfl) (by kernel_rfl) ?_
 refine AWp.s_reg hGn hGk (aa 3) (Man.aa _ _) [(2, (.ref 1002 0)), (3, (vI 0))] [(1002, (.box [(vI 1970), (vI 1), (vI (d + 1))]))] (by kernel_rfl) (by kernel_rfl) ?_
 refine AWp.ret ?_
 refine fin_of (.inr rfl) (v := (.tup [(.agg [(vI 1970), (vI 1), (vI (d + 1))]), (vI 0)])) (Res.many (by kernel_rfl) (Res1s.cons (Res1.agg rfl rfl (by kernel_rfl) (by kernel_rfl)) (Res1s.cons (Res1.tmp rfl) Res1s.nil))) (h' := []) rfl rfl ?_
 exact ⟨rfl, rfl⟩
theorem res_day (d : Int) (hd : 0 ≤ d ∧ d ≤ 30) :
    SpecIs Tryz.prog 109 [(vI d)] [] (vB true) [] := by
 refine Spec.intro Tryz.func109 rfl (by kernel_rfl) ?_
 intro Γ hGn hGk
 replace hGn : Γ.n = 12 := hGn
 replace hGk : Γ.names = [] := hGk
 refine AWp.weaken (mk [(0, (vI d))] []) (Weak.sub' hGk (by kernel_rfl)) ?_
 refine AWp.s_reg hGn hGk (aa 1) (Man.aa _ _) [(0, (vI d))] [] (by kernel_rfl) (by kernel_rfl) ?_
 refine AWp.s_reg hGn hGk [.a, .m (some 7) ⟨[(6, (vI d))], [], (.tup [(.agg [(vI 1970), (vI 1), (vI (d + 1))]), (vI 0)]), [], []⟩, .a, .a, .a, .a, .a, .a] ⟨StepOK.p rfl rfl rfl (OpOK.call rfl (by kernel_rfl) rfl (civ_Date d (by omega)) (by kernel_rfl)), trivial⟩ [(4, (vI 0))] [] (by kernel_rfl) (by kernel_rfl) ?_
 refine AWp.s_reg hGn hGk (aa 3) (Man.aa _ _) [(2, (vB true))] [] (by kernel_rfl) (by kernel_rfl) ?_
 refine AWp.ret ?_
 refine fin_of (.inr rfl) (v := (vB true)) (Res.tmp rfl rfl) (h' := []) rfl rfl ?_
 exact ⟨rfl, rfl⟩
end Go.Proofs.YtimfbibaoppfcaaGreatDoor
