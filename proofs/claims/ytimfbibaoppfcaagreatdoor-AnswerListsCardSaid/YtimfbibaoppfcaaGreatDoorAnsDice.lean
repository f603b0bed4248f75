/-
  The walks of answers by dice, and of the example. Printed by wip/gen/pol.py.
-/
import Derived.Test.YtimfbibaoppfcaaGreatDoorAnsLaw
import Derived.Test.YtimfbibaoppfcaaGreatDoorAnsWalk
import Derived.Test.YtimfbibaoppfcaaGreatDoorCrewWalk
import Derived.Test.YtimfbibaoppfcaaGreatDoorAmS
import Derived.Test.YtimfbibaoppfcaaGreatDoorWordsWalk
set_option maxRecDepth 100000
set_option linter.unusedSimpArgs false
set_option linter.unusedVariables false
namespace Go.Proofs.YtimfbibaoppfcaaGreatDoor
open Go AM
theorem made_Answer (L : List Int) (i : Nat) (id page at_ : Int) (hL : L.length ≤ 500) (hi : i ≤ L.length) :
    SpecIs Tryz.prog 17 [(.ref 1 0), (vI id), (vI page), (vI at_)] [(1, (.box [(.p (.sl false 1 (L.map D.cInt))), (vI ((i : Nat) : Int))]))] (.agg [(vI ((ansP L i id page at_).ID)), (vI ((ansP L i id page at_).Page)), (vI ((ansP L i id page at_).Person)), (vI ((ansP L i id page at_).Kind)), (vI ((ansP L i id page at_).Arg)), (vI ((ansP L i id page at_).At))]) [(1, (.box [(.p (.sl false 1 (L.map D.cInt))), (vI ((ansI L i : Nat) : Int))]))] := by
 refine Spec.intro Tryz.func17 rfl (by kernel_rfl) ?_
 intro Γ hGn hGk
 replace hGn : Γ.n = 34 := hGn
 replace hGk : Γ.names = [1] := hGk
 let a'1 : AO := (.box [(.p (.sl false 1 (L.map D.cInt))), (vI ((i : Nat) : Int))])
 refine AWp.weaken (mk [(0, (.ref 1 0)), (1, (vI id)), (2, (vI page)), (3, (vI at_))] [(1, a'1)]) (Weak.sub' hGk (by kernel_rfl)) ?_
 let a'2 : AO := (.box [(vI 0), (vI 0), (vI 0), (vI 0), (vI 0), (vI 0)])
 refine AWp.s_reg hGn hGk (aa 1) (Man.aa _ _) [(0, (.ref 1 0)), (1, (vI id)), (2, (vI page)), (3, (vI at_)), (8, (.ref 1008 0))] [(1, a'1), (1008, a'2)] (by kernel_rfl) (by kernel_rfl) ?_
 have hf1 := nextN_lt L i 5 (by omega)
 have hf2 := nextN_lt L (nextI L i 5) 5 (by omega)
 let a'3 : AO := (.box [(.p (.sl false 1 (L.map D.cInt))), (vI ((nextI L (nextI L i 5) 5 : Nat) : Int))])
 let a'4 : AO := (.box [(vI id), (vI page), (vI (((nextN L i 5 : Nat) : Int) - 1)), (vI ((1 + (nextN L (nextI L i 5) 5) : Nat) : Int)), (vI 0), (vI at_)])
 refine AWp.s_reg hGn hGk [.a, .a, .a, .m (some 13) ⟨[(12, (.ref 1 0))], [(1, a'1)], (vI ((nextN L i 5 : Nat) : Int)), [(1, (.box [(.p (.sl false 1 (L.map D.cInt))), (vI ((nextI L i 5 : Nat) : Int))]))], []⟩, .m (some 14) ⟨[(13, (vI ((nextN L i 5 : Nat) : Int)))], [], (vI (((nextN L i 5 : Nat) : Int) - 1)), [], []⟩, .a, .m (some 16) ⟨[(15, (.ref 1 0))], [(1, (.box [(.p (.sl false 1 (L.map D.cInt))), (vI ((nextI L i 5 : Nat) : Int))]))], (vI ((nextN L (nextI L i 5) 5 : Nat) : Int)), [(1, a'3)], []⟩, .m (some 17) ⟨[(16, (vI ((nextN L (nextI L i 5) 5 : Nat) : Int)))], [], (vI ((1 + (nextN L (nextI L i 5) 5) : Nat) : Int)), [], []⟩, .a, .a, .a, .a] ⟨StepOK.p rfl rfl rfl (OpOK.call rfl (by kernel_rfl) rfl (made_Next L i 5 hL (by repeat (first | assumption | exact Nat.zero_le _ | apply nextI_le | apply crewI_le | apply ansI_le | apply oddAI_le | apply oneI_le | apply targetI_le | apply teamI_le | apply stepI_le | apply policyI_le)) (by omega)) (by kernel_rfl)),
  StepOK.p rfl rfl rfl (OpOK.sub rfl rfl rfl (IntWalk.i64_in _ ⟨by omega, by omega⟩)),
  StepOK.p rfl rfl rfl (OpOK.call rfl (by kernel_rfl) rfl (made_Next L (nextI L i 5) 5 hL (by repeat (first | assumption | exact Nat.zero_le _ | apply nextI_le | apply crewI_le | apply ansI_le | apply oddAI_le | apply oneI_le | apply targetI_le | apply teamI_le | apply stepI_le | apply policyI_le)) (by omega)) (by kernel_rfl)),
  StepOK.p rfl rfl rfl (OpOK.add rfl rfl rfl (by rw [IntWalk.i64_in _ ⟨by omega, by omega⟩]; omega)), trivial⟩ [(0, (.ref 1 0)), (8, (.ref 1008 0)), (9, (.ref 1009 0))] [(1, a'3), (1008, a'2), (1009, a'4)] (by kernel_rfl) (by kernel_rfl) ?_
 refine AWp.seq ?_
 refine AWp.s_reg hGn hGk (aa 2) (Man.aa _ _) [(0, (.ref 1 0)), (8, (.ref 1008 0)), (9, (.ref 1009 0)), (21, (vI ((1 + (nextN L (nextI L i 5) 5) : Nat) : Int)))] [(1, a'3), (1008, a'2), (1009, a'4)] (by kernel_rfl) (by kernel_rfl) ?_
 refine AWp.block ?_
 refine AWp.s_reg hGn hGk (aa 2) (Man.aa _ _) [(0, (.ref 1 0)), (8, (.ref 1008 0)), (9, (.ref 1009 0)), (21, (vI ((1 + (nextN L (nextI L i 5) 5) : Nat) : Int))), (22, (vB (decide (((1 + (nextN L (nextI L i 5) 5) : Nat) : Int) = (3 : Int)))))] [(1, a'3), (1008, a'2), (1009, a'4)] (by kernel_rfl) (by kernel_rfl) ?_
 refine AWp.cond (decide (((1 + (nextN L (nextI L i 5) 5) : Nat) : Int) = (3 : Int))) rfl (fun hc3 => ?_) (fun hc3 => ?_)
 ·skip
  replace hc3 := of_decide_eq_true hc3
  let a'5 : AO := (.box [(.p (.sl false 1 (L.map D.cInt))), (vI ((oneI L (nextI L (nextI L i 5) 5) ([1, 60, 600, 5000] : List Int) : Nat) : Int))])
  refine AWp.reg' hGn hGk [.a, .a, .m (some 26) ⟨[(24, (.ref 1 0)), (25, (.p (.sl true 1 [[(pI 1)], [(pI 60)], [(pI 600)], [(pI 5000)]])))], [(1, a'3)], (vI (oneV L (nextI L (nextI L i 5) 5) ([1, 60, 600, 5000] : List Int))), [(1, a'5)], []⟩, .a, .a] ⟨StepOK.p rfl rfl rfl (OpOK.call rfl (by kernel_rfl) rfl (made_One L (nextI L (nextI L i 5) 5) ([1, 60, 600, 5000] : List Int) true hL (by repeat (first | assumption | exact Nat.zero_le _ | apply nextI_le | apply crewI_le | apply ansI_le | apply oddAI_le | apply oneI_le | apply targetI_le | apply teamI_le | apply stepI_le | apply policyI_le)) (by simp only [List.length_cons, List.length_nil]; omega)) (by kernel_rfl)), trivial⟩ [(8, (.ref 1008 0)), (9, (.ref 1009 0))] [(1, a'5), (1008, a'2), (1009, (.box [(vI id), (vI page), (vI (((nextN L i 5 : Nat) : Int) - 1)), (vI ((1 + (nextN L (nextI L i 5) 5) : Nat) : Int)), (vI (oneV L (nextI L (nextI L i 5) 5) ([1, 60, 600, 5000] : List Int))), (vI at_)]))] (by kernel_rfl) (by kernel_rfl) ?_
  refine blockQ_normal ?_
  refine nextQ_normal ?_
  refine AWp.s_reg hGn hGk (aa 2) (Man.aa _ _) [(8, (.ref 1008 0))] [(1, a'5), (1008, (.box [(vI id), (vI page), (vI (((nextN L i 5 : Nat) : Int) - 1)), (vI ((1 + (nextN L (nextI L i 5) 5) : Nat) : Int)), (vI (oneV L (nextI L (nextI L i 5) 5) ([1, 60, 600, 5000] : List Int))), (vI at_)]))] (by kernel_rfl) (by kernel_rfl) ?_
  refine AWp.ret ?_
  refine fin_of (.inr rfl) (v := (.agg [(vI id), (vI page), (vI (((nextN L i 5 : Nat) : Int) - 1)), (vI ((1 + (nextN L (nextI L i 5) 5) : Nat) : Int)), (vI (oneV L (nextI L (nextI L i 5) 5) ([1, 60, 600, 5000] : List Int))), (vI at_)])) (Res.agg rfl rfl rfl (by kernel_rfl) (by kernel_rfl)) (h' := [(1, (.box [(.p (.sl false 1 (L.map D.cInt))), (vI ((oneI L (nextI L (nextI L i 5) 5) ([1, 60, 600, 5000] : List Int) : Nat) : Int))]))]) rfl rfl ?_
  have hK : ansK L i = 2 := by unfold ansK; omega
  exact ⟨by (simp only [ansP, ansArg_2 hK]) <;> rfl, by (rw [ansI_2 hK]) <;> rfl⟩
 ·skip
  replace hc3 := of_decide_eq_false hc3
  refine AWp.s_reg hGn hGk (aa 2) (Man.aa _ _) [(0, (.ref 1 0)), (8, (.ref 1008 0)), (9, (.ref 1009 0)), (28, (vB (decide (((1 + (nextN L (nextI L i 5) 5) : Nat) : Int) = (4 : Int)))))] [(1, a'3), (1008, a'2), (1009, a'4)] (by kernel_rfl) (by kernel_rfl) ?_
  refine AWp.cond (decide (((1 + (nextN L (nextI L i 5) 5) : Nat) : Int) = (4 : Int))) rfl (fun hc4 => ?_) (fun hc4 => ?_)
  ·skip
   replace hc4 := of_decide_eq_true hc4
   have hf5 := nextN_lt L (nextI L (nextI L i 5) 5) 4 (by omega)
   let a'6 : AO := (.box [(.p (.sl false 1 (L.map D.cInt))), (vI ((nextI L (nextI L (nextI L i 5) 5) 4 : Nat) : Int))])
   refine AWp.reg' hGn hGk [.a, .m (some 31) ⟨[(30, (.ref 1 0))], [(1, a'3)], (vI ((nextN L (nextI L (nextI L i 5) 5) 4 : Nat) : Int)), [(1, a'6)], []⟩, .a, .a] ⟨StepOK.p rfl rfl rfl (OpOK.call rfl (by kernel_rfl) rfl (made_Next L (nextI L (nextI L i 5) 5) 4 hL (by repeat (first | assumption | exact Nat.zero_le _ | apply nextI_le | apply crewI_le | apply ansI_le | apply oddAI_le | apply oneI_le | apply targetI_le | apply teamI_le | apply stepI_le | apply policyI_le)) (by omega)) (by kernel_rfl)), trivial⟩ [(8, (.ref 1008 0)), (9, (.ref 1009 0))] [(1, a'6), (1008, a'2), (1009, (.box [(vI id), (vI page), (vI (((nextN L i 5 : Nat) : Int) - 1)), (vI ((1 + (nextN L (nextI L i 5) 5) : Nat) : Int)), (vI ((nextN L (nextI L (nextI L i 5) 5) 4 : Nat) : Int)), (vI at_)]))] (by kernel_rfl) (by kernel_rfl) ?_
   refine blockQ_normal ?_
   refine nextQ_normal ?_
   refine AWp.s_reg hGn hGk (aa 2) (Man.aa _ _) [(8, (.ref 1008 0))] [(1, a'6), (1008, (.box [(vI id), (vI page), (vI (((nextN L i 5 : Nat) : Int) - 1)), (vI ((1 + (nextN L (nextI L i 5) 5) : Nat) : Int)), (vI ((nextN L (nextI L (nextI L i 5) 5) 4 : Nat) : Int)), (vI at_)]))] (by kernel_rfl) (by kernel_rfl) ?_
   refine AWp.ret ?_
   refine fin_of (.inr rfl) (v := (.agg [(vI id), (vI page), (vI (((nextN L i 5 : Nat) : Int) - 1)), (vI ((1 + (nextN L (nextI L i 5) 5) : Nat) : Int)), (vI ((nextN L (nextI L (nextI L i 5) 5) 4 : Nat) : Int)), (vI at_)])) (Res.agg rfl rfl rfl (by kernel_rfl) (by kernel_rfl)) (h' := [(1, (.box [(.p (.sl false 1 (L.map D.cInt))), (vI ((nextI L (nextI L (nextI L i 5) 5) 4 : Nat) : Int))]))]) rfl rfl ?_
   have hK : ansK L i = 3 := by unfold ansK; omega
   exact ⟨by (simp only [ansP, ansArg_3 hK]) <;> rfl, by (rw [ansI_3 hK]) <;> rfl⟩
  ·skip
   replace hc4 := of_decide_eq_false hc4
   refine AWp.skip ?_
   refine blockQ_normal ?_
   refine nextQ_normal ?_
   refine AWp.s_reg hGn hGk (aa 2) (Man.aa _ _) [(8, (.ref 1008 0))] [(1, a'3), (1008, a'4)] (by kernel_rfl) (by kernel_rfl) ?_
   refine AWp.ret ?_
   refine fin_of (.inr rfl) (v := (.agg [(vI id), (vI page), (vI (((nextN L i 5 : Nat) : Int) - 1)), (vI ((1 + (nextN L (nextI L i 5) 5) : Nat) : Int)), (vI 0), (vI at_)])) (Res.agg rfl rfl rfl (by kernel_rfl) (by kernel_rfl)) (h' := [(1, (.box [(.p (.sl false 1 (L.map D.cInt))), (vI ((nextI L (nextI L i 5) 5 : Nat) : Int))]))]) rfl rfl ?_
   have hK2 : ¬ ansK L i = 2 := by unfold ansK; omega
   have hK3 : ¬ ansK L i = 3 := by unfold ansK; omega
   exact ⟨by (simp only [ansP, ansArg_0 hK2 hK3]) <;> rfl, by (rw [ansI_0 hK2 hK3]) <;> rfl⟩

theorem law28_odd (L : List Int) (i : Nat) (a : D.Answer) (hL : L.length ≤ 500) (hi : i ≤ L.length) :
    SpecIs Tryz.prog 18 [(.ref 1 0), (.agg [(vI a.ID), (vI a.Page), (vI a.Person), (vI a.Kind), (vI a.Arg), (vI a.At)])] [(1, (.box [(.p (.sl false 1 (L.map D.cInt))), (vI ((i : Nat) : Int))]))] (.agg [(vI ((oddA L i a).ID)), (vI ((oddA L i a).Page)), (vI ((oddA L i a).Person)), (vI ((oddA L i a).Kind)), (vI ((oddA L i a).Arg)), (vI ((oddA L i a).At))]) [(1, (.box [(.p (.sl false 1 (L.map D.cInt))), (vI ((oddAI L i : Nat) : Int))]))] := by
 refine Spec.intro Tryz.func18 rfl (by kernel_rfl) ?_
 intro Γ hGn hGk
 replace hGn : Γ.n = 44 := hGn
 replace hGk : Γ.names = [1] := hGk
 let a'1 : AO := (.box [(.p (.sl false 1 (L.map D.cInt))), (vI ((i : Nat) : Int))])
 refine AWp.weaken (mk [(0, (.ref 1 0)), (1, (.agg [(vI a.ID), (vI a.Page), (vI a.Person), (vI a.Kind), (vI a.Arg), (vI a.At)]))] [(1, a'1)]) (Weak.sub' hGk (by kernel_rfl)) ?_
 let a'2 : AO := (.box [(vI a.ID), (vI a.Page), (vI a.Person), (vI a.Kind), (vI a.Arg), (vI a.At)])
 let a'3 : AO := (.box [(vI 0), (vI 0), (vI 0), (vI 0), (vI 0), (vI 0)])
 refine AWp.s_reg hGn hGk (aa 2) (Man.aa _ _) [(0, (.ref 1 0)), (3, (.ref 1003 0)), (4, (.ref 1004 0))] [(1, a'1), (1003, a'2), (1004, a'3)] (by kernel_rfl) (by kernel_rfl) ?_
 refine AWp.seq ?_
 have hf1 := nextN_lt L i 6 (by omega)
 let a'4 : AO := (.box [(.p (.sl false 1 (L.map D.cInt))), (vI ((nextI L i 6 : Nat) : Int))])
 refine AWp.s_reg hGn hGk [.a, .m (some 6) ⟨[(5, (.ref 1 0))], [(1, a'1)], (vI ((nextN L i 6 : Nat) : Int)), [(1, a'4)], []⟩] ⟨StepOK.p rfl rfl rfl (OpOK.call rfl (by kernel_rfl) rfl (made_Next L i 6 hL (by repeat (first | assumption | exact Nat.zero_le _ | apply nextI_le | apply crewI_le | apply ansI_le | apply oddAI_le | apply oneI_le | apply targetI_le | apply teamI_le | apply stepI_le | apply policyI_le)) (by omega)) (by kernel_rfl)), trivial⟩ [(0, (.ref 1 0)), (3, (.ref 1003 0)), (4, (.ref 1004 0)), (6, (vI ((nextN L i 6 : Nat) : Int)))] [(1, a'4), (1003, a'2), (1004, a'3)] (by kernel_rfl) (by kernel_rfl) ?_
 refine AWp.block ?_
 refine AWp.s_reg hGn hGk (aa 2) (Man.aa _ _) [(0, (.ref 1 0)), (3, (.ref 1003 0)), (4, (.ref 1004 0)), (6, (vI ((nextN L i 6 : Nat) : Int))), (7, (vB (decide (((nextN L i 6 : Nat) : Int) = (0 : Int)))))] [(1, a'4), (1003, a'2), (1004, a'3)] (by kernel_rfl) (by kernel_rfl) ?_
 refine AWp.cond (decide (((nextN L i 6 : Nat) : Int) = (0 : Int))) rfl (fun hc2 => ?_) (fun hc2 => ?_)
 ·skip
  replace hc2 := of_decide_eq_true hc2
  let a'5 : AO := (.box [(.p (.sl false 1 (L.map D.cInt))), (vI ((oneI L (nextI L i 6) ([0, 999999, 1000000] : List Int) : Nat) : Int))])
  refine AWp.reg' hGn hGk [.a, .a, .m (some 11) ⟨[(9, (.ref 1 0)), (10, (.p (.sl true 1 [[(pI 0)], [(pI 999999)], [(pI 1000000)]])))], [(1, a'4)], (vI (oneV L (nextI L i 6) ([0, 999999, 1000000] : List Int))), [(1, a'5)], []⟩, .a, .a] ⟨StepOK.p rfl rfl rfl (OpOK.call rfl (by kernel_rfl) rfl (made_One L (nextI L i 6) ([0, 999999, 1000000] : List Int) true hL (by repeat (first | assumption | exact Nat.zero_le _ | apply nextI_le | apply crewI_le | apply ansI_le | apply oddAI_le | apply oneI_le | apply targetI_le | apply teamI_le | apply stepI_le | apply policyI_le)) (by simp only [List.length_cons, List.length_nil]; omega)) (by kernel_rfl)), trivial⟩ [(3, (.ref 1003 0)), (4, (.ref 1004 0))] [(1, a'5), (1003, (.box [(vI (oneV L (nextI L i 6) ([0, 999999, 1000000] : List Int))), (vI a.Page), (vI a.Person), (vI a.Kind), (vI a.Arg), (vI a.At)])), (1004, a'3)] (by kernel_rfl) (by kernel_rfl) ?_
  refine blockQ_normal ?_
  refine nextQ_normal ?_
  refine AWp.s_reg hGn hGk (aa 2) (Man.aa _ _) [(4, (.ref 1004 0))] [(1, a'5), (1004, (.box [(vI (oneV L (nextI L i 6) ([0, 999999, 1000000] : List Int))), (vI a.Page), (vI a.Person), (vI a.Kind), (vI a.Arg), (vI a.At)]))] (by kernel_rfl) (by kernel_rfl) ?_
  refine AWp.ret ?_
  refine fin_of (.inr rfl) (v := (.agg [(vI (oneV L (nextI L i 6) ([0, 999999, 1000000] : List Int))), (vI a.Page), (vI a.Person), (vI a.Kind), (vI a.Arg), (vI a.At)])) (Res.agg rfl rfl rfl (by kernel_rfl) (by kernel_rfl)) (h' := [(1, (.box [(.p (.sl false 1 (L.map D.cInt))), (vI ((oneI L (nextI L i 6) ([0, 999999, 1000000] : List Int) : Nat) : Int))]))]) rfl rfl ?_
  have hK : nextN L i 6 = 0 := by omega
  exact ⟨by unfold oddA; rw [hK] <;> rfl, by unfold oddAI; rw [hK] <;> rfl⟩
 ·skip
  replace hc2 := of_decide_eq_false hc2
  refine AWp.s_reg hGn hGk (aa 2) (Man.aa _ _) [(0, (.ref 1 0)), (3, (.ref 1003 0)), (4, (.ref 1004 0)), (6, (vI ((nextN L i 6 : Nat) : Int))), (13, (vB (decide (((nextN L i 6 : Nat) : Int) = (1 : Int)))))] [(1, a'4), (1003, a'2), (1004, a'3)] (by kernel_rfl) (by kernel_rfl) ?_
  refine AWp.cond (decide (((nextN L i 6 : Nat) : Int) = (1 : Int))) rfl (fun hc3 => ?_) (fun hc3 => ?_)
  ·skip
   replace hc3 := of_decide_eq_true hc3
   let a'6 : AO := (.box [(.p (.sl false 1 (L.map D.cInt))), (vI ((oneI L (nextI L i 6) ([0, 999999, 1000000] : List Int) : Nat) : Int))])
   refine AWp.reg' hGn hGk [.a, .a, .m (some 17) ⟨[(15, (.ref 1 0)), (16, (.p (.sl true 1 [[(pI 0)], [(pI 999999)], [(pI 1000000)]])))], [(1, a'4)], (vI (oneV L (nextI L i 6) ([0, 999999, 1000000] : List Int))), [(1, a'6)], []⟩, .a, .a] ⟨StepOK.p rfl rfl rfl (OpOK.call rfl (by kernel_rfl) rfl (made_One L (nextI L i 6) ([0, 999999, 1000000] : List Int) true hL (by repeat (first | assumption | exact Nat.zero_le _ | apply nextI_le | apply crewI_le | apply ansI_le | apply oddAI_le | apply oneI_le | apply targetI_le | apply teamI_le | apply stepI_le | apply policyI_le)) (by simp only [List.length_cons, List.length_nil]; omega)) (by kernel_rfl)), trivial⟩ [(3, (.ref 1003 0)), (4, (.ref 1004 0))] [(1, a'6), (1003, (.box [(vI a.ID), (vI (oneV L (nextI L i 6) ([0, 999999, 1000000] : List Int))), (vI a.Person), (vI a.Kind), (vI a.Arg), (vI a.At)])), (1004, a'3)] (by kernel_rfl) (by kernel_rfl) ?_
   refine blockQ_normal ?_
   refine nextQ_normal ?_
   refine AWp.s_reg hGn hGk (aa 2) (Man.aa _ _) [(4, (.ref 1004 0))] [(1, a'6), (1004, (.box [(vI a.ID), (vI (oneV L (nextI L i 6) ([0, 999999, 1000000] : List Int))), (vI a.Person), (vI a.Kind), (vI a.Arg), (vI a.At)]))] (by kernel_rfl) (by kernel_rfl) ?_
   refine AWp.ret ?_
   refine fin_of (.inr rfl) (v := (.agg [(vI a.ID), (vI (oneV L (nextI L i 6) ([0, 999999, 1000000] : List Int))), (vI a.Person), (vI a.Kind), (vI a.Arg), (vI a.At)])) (Res.agg rfl rfl rfl (by kernel_rfl) (by kernel_rfl)) (h' := [(1, (.box [(.p (.sl false 1 (L.map D.cInt))), (vI ((oneI L (nextI L i 6) ([0, 999999, 1000000] : List Int) : Nat) : Int))]))]) rfl rfl ?_
   have hK : nextN L i 6 = 1 := by omega
   exact ⟨by unfold oddA; rw [hK] <;> rfl, by unfold oddAI; rw [hK] <;> rfl⟩
  ·skip
   replace hc3 := of_decide_eq_false hc3
   refine AWp.s_reg hGn hGk (aa 2) (Man.aa _ _) [(0, (.ref 1 0)), (3, (.ref 1003 0)), (4, (.ref 1004 0)), (6, (vI ((nextN L i 6 : Nat) : Int))), (19, (vB (decide (((nextN L i 6 : Nat) : Int) = (2 : Int)))))] [(1, a'4), (1003, a'2), (1004, a'3)] (by kernel_rfl) (by kernel_rfl) ?_
   refine AWp.cond (decide (((nextN L i 6 : Nat) : Int) = (2 : Int))) rfl (fun hc4 => ?_) (fun hc4 => ?_)
   ·skip
    replace hc4 := of_decide_eq_true hc4
    let a'7 : AO := (.box [(.p (.sl false 1 (L.map D.cInt))), (vI ((oneI L (nextI L i 6) ([(-2), 4, 31, 32] : List Int) : Nat) : Int))])
    refine AWp.reg' hGn hGk [.a, .a, .m (some 23) ⟨[(21, (.ref 1 0)), (22, (.p (.sl true 1 [[(pI (-2))], [(pI 4)], [(pI 31)], [(pI 32)]])))], [(1, a'4)], (vI (oneV L (nextI L i 6) ([(-2), 4, 31, 32] : List Int))), [(1, a'7)], []⟩, .a, .a] ⟨StepOK.p rfl rfl rfl (OpOK.call rfl (by kernel_rfl) rfl (made_One L (nextI L i 6) ([(-2), 4, 31, 32] : List Int) true hL (by repeat (first | assumption | exact Nat.zero_le _ | apply nextI_le | apply crewI_le | apply ansI_le | apply oddAI_le | apply oneI_le | apply targetI_le | apply teamI_le | apply stepI_le | apply policyI_le)) (by simp only [List.length_cons, List.length_nil]; omega)) (by kernel_rfl)), trivial⟩ [(3, (.ref 1003 0)), (4, (.ref 1004 0))] [(1, a'7), (1003, (.box [(vI a.ID), (vI a.Page), (vI (oneV L (nextI L i 6) ([(-2), 4, 31, 32] : List Int))), (vI a.Kind), (vI a.Arg), (vI a.At)])), (1004, a'3)] (by kernel_rfl) (by kernel_rfl) ?_
    refine blockQ_normal ?_
    refine nextQ_normal ?_
    refine AWp.s_reg hGn hGk (aa 2) (Man.aa _ _) [(4, (.ref 1004 0))] [(1, a'7), (1004, (.box [(vI a.ID), (vI a.Page), (vI (oneV L (nextI L i 6) ([(-2), 4, 31, 32] : List Int))), (vI a.Kind), (vI a.Arg), (vI a.At)]))] (by kernel_rfl) (by kernel_rfl) ?_
    refine AWp.ret ?_
    refine fin_of (.inr rfl) (v := (.agg [(vI a.ID), (vI a.Page), (vI (oneV L (nextI L i 6) ([(-2), 4, 31, 32] : List Int))), (vI a.Kind), (vI a.Arg), (vI a.At)])) (Res.agg rfl rfl rfl (by kernel_rfl) (by kernel_rfl)) (h' := [(1, (.box [(.p (.sl false 1 (L.map D.cInt))), (vI ((oneI L (nextI L i 6) ([(-2), 4, 31, 32] : List Int) : Nat) : Int))]))]) rfl rfl ?_
    have hK : nextN L i 6 = 2 := by omega
    exact ⟨by unfold oddA; rw [hK] <;> rfl, by unfold oddAI; rw [hK] <;> rfl⟩
   ·skip
    replace hc4 := of_decide_eq_false hc4
    refine AWp.s_reg hGn hGk (aa 2) (Man.aa _ _) [(0, (.ref 1 0)), (3, (.ref 1003 0)), (4, (.ref 1004 0)), (6, (vI ((nextN L i 6 : Nat) : Int))), (25, (vB (decide (((nextN L i 6 : Nat) : Int) = (3 : Int)))))] [(1, a'4), (1003, a'2), (1004, a'3)] (by kernel_rfl) (by kernel_rfl) ?_
    refine AWp.cond (decide (((nextN L i 6 : Nat) : Int) = (3 : Int))) rfl (fun hc5 => ?_) (fun hc5 => ?_)
    ·skip
     replace hc5 := of_decide_eq_true hc5
     let a'8 : AO := (.box [(.p (.sl false 1 (L.map D.cInt))), (vI ((oneI L (nextI L i 6) ([0, 6] : List Int) : Nat) : Int))])
     refine AWp.reg' hGn hGk [.a, .a, .m (some 29) ⟨[(27, (.ref 1 0)), (28, (.p (.sl true 1 [[(pI 0)], [(pI 6)]])))], [(1, a'4)], (vI (oneV L (nextI L i 6) ([0, 6] : List Int))), [(1, a'8)], []⟩, .a, .a] ⟨StepOK.p rfl rfl rfl (OpOK.call rfl (by kernel_rfl) rfl (made_One L (nextI L i 6) ([0, 6] : List Int) true hL (by repeat (first | assumption | exact Nat.zero_le _ | apply nextI_le | apply crewI_le | apply ansI_le | apply oddAI_le | apply oneI_le | apply targetI_le | apply teamI_le | apply stepI_le | apply policyI_le)) (by simp only [List.length_cons, List.length_nil]; omega)) (by kernel_rfl)), trivial⟩ [(3, (.ref 1003 0)), (4, (.ref 1004 0))] [(1, a'8), (1003, (.box [(vI a.ID), (vI a.Page), (vI a.Person), (vI (oneV L (nextI L i 6) ([0, 6] : List Int))), (vI a.Arg), (vI a.At)])), (1004, a'3)] (by kernel_rfl) (by kernel_rfl) ?_
     refine blockQ_normal ?_
     refine nextQ_normal ?_
     refine AWp.s_reg hGn hGk (aa 2) (Man.aa _ _) [(4, (.ref 1004 0))] [(1, a'8), (1004, (.box [(vI a.ID), (vI a.Page), (vI a.Person), (vI (oneV L (nextI L i 6) ([0, 6] : List Int))), (vI a.Arg), (vI a.At)]))] (by kernel_rfl) (by kernel_rfl) ?_
     refine AWp.ret ?_
     refine fin_of (.inr rfl) (v := (.agg [(vI a.ID), (vI a.Page), (vI a.Person), (vI (oneV L (nextI L i 6) ([0, 6] : List Int))), (vI a.Arg), (vI a.At)])) (Res.agg rfl rfl rfl (by kernel_rfl) (by kernel_rfl)) (h' := [(1, (.box [(.p (.sl false 1 (L.map D.cInt))), (vI ((oneI L (nextI L i 6) ([0, 6] : List Int) : Nat) : Int))]))]) rfl rfl ?_
     have hK : nextN L i 6 = 3 := by omega
     exact ⟨by unfold oddA; rw [hK] <;> rfl, by unfold oddAI; rw [hK] <;> rfl⟩
    ·skip
     replace hc5 := of_decide_eq_false hc5
     refine AWp.s_reg hGn hGk (aa 2) (Man.aa _ _) [(0, (.ref 1 0)), (3, (.ref 1003 0)), (4, (.ref 1004 0)), (6, (vI ((nextN L i 6 : Nat) : Int))), (31, (vB (decide (((nextN L i 6 : Nat) : Int) = (4 : Int)))))] [(1, a'4), (1003, a'2), (1004, a'3)] (by kernel_rfl) (by kernel_rfl) ?_
     refine AWp.cond (decide (((nextN L i 6 : Nat) : Int) = (4 : Int))) rfl (fun hc6 => ?_) (fun hc6 => ?_)
     ·skip
      replace hc6 := of_decide_eq_true hc6
      let a'9 : AO := (.box [(.p (.sl false 1 (L.map D.cInt))), (vI ((oneI L (nextI L i 6) ([(-1), 0, 4, 86400, 86401] : List Int) : Nat) : Int))])
      refine AWp.reg' hGn hGk [.a, .a, .m (some 35) ⟨[(33, (.ref 1 0)), (34, (.p (.sl true 1 [[(pI (-1))], [(pI 0)], [(pI 4)], [(pI 86400)], [(pI 86401)]])))], [(1, a'4)], (vI (oneV L (nextI L i 6) ([(-1), 0, 4, 86400, 86401] : List Int))), [(1, a'9)], []⟩, .a, .a] ⟨StepOK.p rfl rfl rfl (OpOK.call rfl (by kernel_rfl) rfl (made_One L (nextI L i 6) ([(-1), 0, 4, 86400, 86401] : List Int) true hL (by repeat (first | assumption | exact Nat.zero_le _ | apply nextI_le | apply crewI_le | apply ansI_le | apply oddAI_le | apply oneI_le | apply targetI_le | apply teamI_le | apply stepI_le | apply policyI_le)) (by simp only [List.length_cons, List.length_nil]; omega)) (by kernel_rfl)), trivial⟩ [(3, (.ref 1003 0)), (4, (.ref 1004 0))] [(1, a'9), (1003, (.box [(vI a.ID), (vI a.Page), (vI a.Person), (vI a.Kind), (vI (oneV L (nextI L i 6) ([(-1), 0, 4, 86400, 86401] : List Int))), (vI a.At)])), (1004, a'3)] (by kernel_rfl) (by kernel_rfl) ?_
      refine blockQ_normal ?_
      refine nextQ_normal ?_
      refine AWp.s_reg hGn hGk (aa 2) (Man.aa _ _) [(4, (.ref 1004 0))] [(1, a'9), (1004, (.box [(vI a.ID), (vI a.Page), (vI a.Person), (vI a.Kind), (vI (oneV L (nextI L i 6) ([(-1), 0, 4, 86400, 86401] : List Int))), (vI a.At)]))] (by kernel_rfl) (by kernel_rfl) ?_
      refine AWp.ret ?_
      refine fin_of (.inr rfl) (v := (.agg [(vI a.ID), (vI a.Page), (vI a.Person), (vI a.Kind), (vI (oneV L (nextI L i 6) ([(-1), 0, 4, 86400, 86401] : List Int))), (vI a.At)])) (Res.agg rfl rfl rfl (by kernel_rfl) (by kernel_rfl)) (h' := [(1, (.box [(.p (.sl false 1 (L.map D.cInt))), (vI ((oneI L (nextI L i 6) ([(-1), 0, 4, 86400, 86401] : List Int) : Nat) : Int))]))]) rfl rfl ?_
      have hK : nextN L i 6 = 4 := by omega
      exact ⟨by unfold oddA; rw [hK] <;> rfl, by unfold oddAI; rw [hK] <;> rfl⟩
     ·skip
      replace hc6 := of_decide_eq_false hc6
      refine AWp.s_reg hGn hGk (aa 2) (Man.aa _ _) [(0, (.ref 1 0)), (3, (.ref 1003 0)), (4, (.ref 1004 0)), (37, (vB (decide (((nextN L i 6 : Nat) : Int) = (5 : Int)))))] [(1, a'4), (1003, a'2), (1004, a'3)] (by kernel_rfl) (by kernel_rfl) ?_
      refine AWp.cond (decide (((nextN L i 6 : Nat) : Int) = (5 : Int))) rfl (fun hc7 => ?_) (fun hc7 => ?_)
      ·skip
       replace hc7 := of_decide_eq_true hc7
       let a'10 : AO := (.box [(.p (.sl false 1 (L.map D.cInt))), (vI ((oneI L (nextI L i 6) ([(-1), 8589934592, 8589934593] : List Int) : Nat) : Int))])
       refine AWp.reg' hGn hGk [.a, .a, .m (some 41) ⟨[(39, (.ref 1 0)), (40, (.p (.sl true 1 [[(pI (-1))], [(pI 8589934592)], [(pI 8589934593)]])))], [(1, a'4)], (vI (oneV L (nextI L i 6) ([(-1), 8589934592, 8589934593] : List Int))), [(1, a'10)], []⟩, .a, .a] ⟨StepOK.p rfl rfl rfl (OpOK.call rfl (by kernel_rfl) rfl (made_One L (nextI L i 6) ([(-1), 8589934592, 8589934593] : List Int) true hL (by repeat (first | assumption | exact Nat.zero_le _ | apply nextI_le | apply crewI_le | apply ansI_le | apply oddAI_le | apply oneI_le | apply targetI_le | apply teamI_le | apply stepI_le | apply policyI_le)) (by simp only [List.length_cons, List.length_nil]; omega)) (by kernel_rfl)), trivial⟩ [(3, (.ref 1003 0)), (4, (.ref 1004 0))] [(1, a'10), (1003, (.box [(vI a.ID), (vI a.Page), (vI a.Person), (vI a.Kind), (vI a.Arg), (vI (oneV L (nextI L i 6) ([(-1), 8589934592, 8589934593] : List Int)))])), (1004, a'3)] (by kernel_rfl) (by kernel_rfl) ?_
       refine blockQ_normal ?_
       refine nextQ_normal ?_
       refine AWp.s_reg hGn hGk (aa 2) (Man.aa _ _) [(4, (.ref 1004 0))] [(1, a'10), (1004, (.box [(vI a.ID), (vI a.Page), (vI a.Person), (vI a.Kind), (vI a.Arg), (vI (oneV L (nextI L i 6) ([(-1), 8589934592, 8589934593] : List Int)))]))] (by kernel_rfl) (by kernel_rfl) ?_
       refine AWp.ret ?_
       refine fin_of (.inr rfl) (v := (.agg [(vI a.ID), (vI a.Page), (vI a.Person), (vI a.Kind), (vI a.Arg), (vI (oneV L (nextI L i 6) ([(-1), 8589934592, 8589934593] : List Int)))])) (Res.agg rfl rfl rfl (by kernel_rfl) (by kernel_rfl)) (h' := [(1, (.box [(.p (.sl false 1 (L.map D.cInt))), (vI ((oneI L (nextI L i 6) ([(-1), 8589934592, 8589934593] : List Int) : Nat) : Int))]))]) rfl rfl ?_
       have hK : nextN L i 6 = 5 := by omega
       exact ⟨by unfold oddA; rw [hK] <;> rfl, by unfold oddAI; rw [hK] <;> rfl⟩
      ·skip
       replace hc7 := of_decide_eq_false hc7
       exfalso; have hb := nextN_lt L i 6 (by omega); omega

theorem law28_small  :
    SpecIs Tryz.prog 35 [] [] (.agg [(.p (.sl false 3 (((crew [] 0).Zones).map D.Zone.cells))), (.p (.sl false 6 (((crew [] 0).People).map D.Person.cells))), (.p (.sl false 3 (((crew [] 0).Calendars).map D.Calendar.cells))), (.p (.sl false 3 (((crew [] 0).Schedules).map D.Schedule.cells)))]) [] := by
 refine Spec.intro Tryz.func35 rfl (by kernel_rfl) ?_
 intro Γ hGn hGk
 replace hGn : Γ.n = 3 := hGn
 replace hGk : Γ.names = [] := hGk
 refine AWp.weaken (mk [] []) (Weak.sub' hGk (by kernel_rfl)) ?_
 refine AWp.s_reg hGn hGk (aa 1) (Man.aa _ _) [(0, (.ref 1000 0))] [(1000, (.box [(.p (.sl true 0 [])), (.p (.sl true 0 [])), (.p (.sl true 0 [])), (.p (.sl true 0 []))]))] (by kernel_rfl) (by kernel_rfl) ?_
 let a'1 : AV := (.p (.sl false 1 (([] : List Int).map D.cInt)))
 refine AWp.s_reg hGn hGk [.m (some 1) ⟨[], [], (.ref 1 0), [(1, (.box [a'1, (vI ((0 : Nat) : Int))]))], [1]⟩, .m (some 2) ⟨[(1, (.ref 1 0))], [(1, (.box [a'1, (vI ((0 : Nat) : Int))]))], (.agg [(.p (.sl false 3 (((crew [] 0).Zones).map D.Zone.cells))), (.p (.sl false 6 (((crew [] 0).People).map D.Person.cells))), (.p (.sl false 3 (((crew [] 0).Calendars).map D.Calendar.cells))), (.p (.sl false 3 (((crew [] 0).Schedules).map D.Schedule.cells)))]), [(1, (.box [a'1, (vI ((crewI [] 0 : Nat) : Int))]))], []⟩, .a] ⟨StepOK.p rfl rfl rfl (OpOK.call rfl (by kernel_rfl) rfl (Spec.argsLe (made_Roll []) (.cons (.p (PVle.nil (by simp))) .nil)) (by kernel_rfl)),
  StepOK.p rfl rfl rfl (OpOK.call rfl (by kernel_rfl) rfl (made_Crew [] 0 (by decide) (by decide)) (by kernel_rfl)), trivial⟩ [(0, (.ref 1000 0))] [(1000, (.box [(.p (.sl false 3 (((crew [] 0).Zones).map D.Zone.cells))), (.p (.sl false 6 (((crew [] 0).People).map D.Person.cells))), (.p (.sl false 3 (((crew [] 0).Calendars).map D.Calendar.cells))), (.p (.sl false 3 (((crew [] 0).Schedules).map D.Schedule.cells)))]))] (by kernel_rfl) (by kernel_rfl) ?_
 refine AWp.ret ?_
 refine fin_of (.inr rfl) (v := (.agg [(.p (.sl false 3 (((crew [] 0).Zones).map D.Zone.cells))), (.p (.sl false 6 (((crew [] 0).People).map D.Person.cells))), (.p (.sl false 3 (((crew [] 0).Calendars).map D.Calendar.cells))), (.p (.sl false 3 (((crew [] 0).Schedules).map D.Schedule.cells)))])) (Res.agg rfl rfl rfl (by kernel_rfl) (by kernel_rfl)) (h' := []) rfl rfl ?_
 exact ⟨rfl, rfl⟩

theorem law28_sane  :
    SpecIs Tryz.prog 10 [] [] (vB true) [] := by
 refine Spec.intro Tryz.func10 rfl (by kernel_rfl) ?_
 intro Γ hGn hGk
 replace hGn : Γ.n = 37 := hGn
 replace hGk : Γ.names = [] := hGk
 refine AWp.weaken (mk [] []) (Weak.sub' hGk (by kernel_rfl)) ?_
 refine AWp.s_reg hGn hGk (aa 1) (Man.aa _ _) [] [] (by kernel_rfl) (by kernel_rfl) ?_
 let a'1 : AV := (.p (.sl false 3 (((crew [] 0).Zones).map D.Zone.cells)))
 let a'2 : AV := (.p (.sl false 6 (((crew [] 0).People).map D.Person.cells)))
 let a'3 : AV := (.p (.sl false 3 (((crew [] 0).Calendars).map D.Calendar.cells)))
 let a'4 : AV := (.p (.sl false 3 (((crew [] 0).Schedules).map D.Schedule.cells)))
 let a'5 : AV := (.agg [a'1, a'2, a'3, a'4])
 refine AWp.s_reg hGn hGk [.m (some 6) ⟨[], [], a'5, [], []⟩, .a, .m (some 8) ⟨[(6, a'5), (7, (.agg [(vI 1), (vI 12), (vI 0), (vI 1), (vI 0), (vI 0)]))], [], (.tup [(vS (ByteArray.mk #[97, 99, 107, 32, 49, 50, 32, 57, 55, 51, 57])), (vI 0)]), [], []⟩, .a, .a, .a, .a, .a] ⟨StepOK.p rfl rfl rfl (OpOK.call rfl (by kernel_rfl) rfl law28_small (by kernel_rfl)),
  StepOK.p rfl rfl rfl (OpOK.call rfl (by kernel_rfl) rfl (by have h := ans_Format (crew [] 0) (⟨1, 12, 0, 1, 0, 0⟩ : D.Answer) (crew_ok [] 0); rw [sane_fmt (crew_ok [] 0)] at h; exact h) (by kernel_rfl)), trivial⟩ [(1, (vS (ByteArray.mk #[97, 99, 107, 32, 49, 50, 32, 57, 55, 51, 57]))), (2, (vI 0))] [] (by kernel_rfl) (by kernel_rfl) ?_
 refine AWp.s_reg hGn hGk [.m (some 12) ⟨[], [], a'5, [], []⟩, .a, .m (some 14) ⟨[(12, a'5), (13, (vS (ByteArray.mk #[97, 99, 107, 32, 49, 50, 32, 57, 55, 51, 57])))], [], (.tup [(.agg [(vI 0), (vI 12), (vI 0), (vI 1), (vI 0), (vI 0)]), (vI 0)]), [], []⟩, .a, .a, .a, .a, .a, .a] ⟨StepOK.p rfl rfl rfl (OpOK.call rfl (by kernel_rfl) rfl law28_small (by kernel_rfl)),
  StepOK.p rfl rfl rfl (OpOK.call rfl (by kernel_rfl) rfl (by have h := ans_Parse (crew [] 0) 0 saneT (crew_ok [] 0) (by decide); rw [sane_parse (crew_ok [] 0)] at h; exact h) (by kernel_rfl)), trivial⟩ [(1, (vS (ByteArray.mk #[97, 99, 107, 32, 49, 50, 32, 57, 55, 51, 57]))), (2, (vI 0)), (3, (.ref 1003 0)), (4, (vI 0))] [(1003, (.box [(vI 0), (vI 12), (vI 0), (vI 1), (vI 0), (vI 0)]))] (by kernel_rfl) (by kernel_rfl) ?_
 refine AWp.s_reg hGn hGk [.a, .a, .a, .a, .m (some 21) ⟨[(20, (vS (ByteArray.mk #[97, 99, 107, 32, 49, 50, 32, 57, 55, 51, 57]))), (19, (vB true))], [], (vB true), [], []⟩, .a, .a, .a, .a, .a, .a, .a, .a, .a, .a, .a, .a, .a, .a, .a, .a] ⟨StepOK.g rfl rfl rfl rfl rfl (by simp) (OpOK.eqlS rfl rfl rfl (decide_eq_true rfl)), trivial⟩ [(0, (vB true))] [] (by kernel_rfl) (by kernel_rfl) ?_
 refine AWp.ret ?_
 refine fin_of (.inr rfl) (v := (vB true)) (Res.tmp rfl rfl) (h' := []) rfl rfl ?_
 exact ⟨rfl, rfl⟩
end Go.Proofs.YtimfbibaoppfcaaGreatDoor
