/-
  The walk of AnswerOrders. Printed by wip/gen/pol.py.
-/
import Derived.Test.YtimfbibaoppfcaaGreatDoorMergeWalk
set_option maxRecDepth 100000
set_option linter.unusedSimpArgs false
set_option linter.unusedVariables false
namespace Go.Proofs.YtimfbibaoppfcaaGreatDoor
open Go AM
set_option maxHeartbeats 1000000 in
theorem law_AnswerOrders (L : List Int) :
    SpecIs Tryz.prog 7 [(.p (.sl false 1 (L.map D.cInt)))] [] (vB true) [] := by
 refine Spec.intro Tryz.func7 rfl (by kernel_rfl) ?_
 intro Γ hGn hGk
 replace hGn : Γ.n = 113 := hGn
 replace hGk : Γ.names = [] := hGk
 refine AWp.weaken (mk [(0, (.p (.sl false 1 (L.map D.cInt))))] []) (Weak.sub' hGk (by kernel_rfl)) ?_
 refine AWp.s_reg hGn hGk (aa 1) (Man.aa _ _) [(0, (.p (.sl false 1 (L.map D.cInt))))] [] (by kernel_rfl) (by kernel_rfl) ?_
 refine AWp.seq ?_
 refine AWp.s_reg hGn hGk [.a, .m (some 15) ⟨[(14, (.p (.sl false 1 (L.map D.cInt))))], [], (vB (decide (((L.length : Nat) : Int) ≤ (500 : Int)))), [], []⟩, .a] ⟨StepOK.p rfl rfl rfl (OpOK.call rfl (by kernel_rfl) rfl (made_Light L) (by kernel_rfl)), trivial⟩ [(0, (.p (.sl false 1 (L.map D.cInt)))), (16, (vB (!(decide (((L.length : Nat) : Int) ≤ (500 : Int))))))] [] (by kernel_rfl) (by kernel_rfl) ?_
 refine AWp.cond (!(decide (((L.length : Nat) : Int) ≤ (500 : Int)))) rfl (fun hc1 => ?_) (fun hc1 => ?_)
 ·skip
  replace hc1 : decide (((L.length : Nat) : Int) ≤ (500 : Int)) = false := by simpa using hc1
  replace hc1 := of_decide_eq_false hc1
  refine AWp.s_reg hGn hGk [.m (some 17) ⟨[], [], (vB true), [], []⟩, .a] ⟨StepOK.p rfl rfl rfl (OpOK.call rfl (by kernel_rfl) rfl law28_sane (by kernel_rfl)), trivial⟩ [(2, (vB true))] [] (by kernel_rfl) (by kernel_rfl) ?_
  refine AWp.ret ?_
  refine nextQ_ret ?_
  refine fin_of (.inr rfl) (v := (vB true)) (Res.tmp rfl rfl) (h' := []) rfl rfl ?_
  exact ⟨rfl, rfl⟩
 ·skip
  replace hc1 : decide (((L.length : Nat) : Int) ≤ (500 : Int)) = true := by simpa using hc1
  replace hc1 := of_decide_eq_true hc1
  refine AWp.skip ?_
  refine nextQ_normal ?_
  have hL : L.length ≤ 500 := by omega
  have hi0 : crewI L 0 ≤ L.length := crewI_le (Nat.zero_le _)
  have hpl : (crew L 0).People.length = 4 := (crew_ok L 0).plen
  let a'1 : AO := (.box [(.p (.sl false 1 (L.map D.cInt))), (vI ((0 : Nat) : Int))])
  refine AWp.s_reg hGn hGk [.a, .m (some 19) ⟨[(18, (.p (.sl false 1 (L.map D.cInt))))], [], (.ref 1 0), [(1, a'1)], [1]⟩, .a] ⟨StepOK.p rfl rfl rfl (OpOK.call rfl (by kernel_rfl) rfl (made_Roll L) (by kernel_rfl)), trivial⟩ [(3, (.ref 1 0))] [(1, a'1)] (by kernel_rfl) (by kernel_rfl) ?_
  refine AWp.s_reg hGn hGk (aa 1) (Man.aa _ _) [(3, (.ref 1 0)), (4, (.p (.sl true 0 [])))] [(1, a'1)] (by kernel_rfl) (by kernel_rfl) ?_
  refine AWp.seq ?_
  refine AWp.s_reg hGn hGk (aa 1) (Man.aa _ _) [(3, (.ref 1 0)), (4, (.p (.sl true 0 []))), (5, (vI 1))] [(1, a'1)] (by kernel_rfl) (by kernel_rfl) ?_
  refine AWp.block ?_
  refine AWp.weaken (mk [(3, (.ref 1 0)), (4, (.own 2000 0)), (5, (vI 1))] [(2000, (.arr 6 [])), (1, a'1)]) (Weak.thaw (t := 4) (es0 := 0) (by kernel_rfl) rfl (by kernel_rfl) (by kernel_rfl) (by kernel_rfl)) ?_
  refine AWp.loop (fun m s => ∃ (all : List D.Answer), ∃ d, s = (mk [(3, (.ref 1 0)), (4, (.own 2000 ((all.map D.Answer.cells).length))), (5, (vI ((all.length + 1 : Nat) : Int)))] [(2000, (.arr 6 (all.map D.Answer.cells))), (1, (.box [(.p (.sl false 1 (L.map D.cInt))), (vI ((d : Nat) : Int))]))]) ∧ (AllOK all) ∧ (all.length ≤ 7) ∧ (d ≤ L.length) ∧ (1 ≤ all.length ∨ all = []) ∧ m = (8 - all.length))
   ⟨_, ([]), 0, rfl, AllOK.nil, (by simp), (by repeat (first | assumption | exact Nat.zero_le _ | apply nextI_le | apply crewI_le | apply ansI_le | apply oddAI_le | apply oneI_le | apply targetI_le | apply teamI_le | apply stepI_le | apply policyI_le)), (.inr rfl), rfl⟩ ?_
  rintro mm2 s ⟨all, d, rfl, ho, hal, hd, h1, hmm2⟩
  refine AWp.seq ?_
  have hf3 := nextN_lt L d 7 (by omega)
  let a'2 : AO := (.box [(.p (.sl false 1 (L.map D.cInt))), (vI ((nextI L d 7 : Nat) : Int))])
  let a'3 : AV := (.own 2000 ((all.map D.Answer.cells).length))
  refine AWp.s_reg hGn hGk [.a, .a, .m (some 22) ⟨[(21, (.ref 1 0))], [(1, (.box [(.p (.sl false 1 (L.map D.cInt))), (vI ((d : Nat) : Int))]))], (vI ((nextN L d 7 : Nat) : Int)), [(1, a'2)], []⟩, .m (some 23) ⟨[(22, (vI ((nextN L d 7 : Nat) : Int)))], [], (vI ((1 + (nextN L d 7) : Nat) : Int)), [], []⟩, .a] ⟨StepOK.p rfl rfl rfl (OpOK.call rfl (by kernel_rfl) rfl (made_Next L d 7 hL (by repeat (first | assumption | exact Nat.zero_le _ | apply nextI_le | apply crewI_le | apply ansI_le | apply oddAI_le | apply oneI_le | apply targetI_le | apply teamI_le | apply stepI_le | apply policyI_le)) (by omega)) (by kernel_rfl)),
   StepOK.p rfl rfl rfl (OpOK.add rfl rfl rfl (by rw [IntWalk.i64_in _ ⟨by omega, by omega⟩]; omega)), trivial⟩ [(3, (.ref 1 0)), (4, a'3), (5, (vI ((all.length + 1 : Nat) : Int))), (24, (vB (decide (((all.length + 1 : Nat) : Int) ≤ ((1 + (nextN L d 7) : Nat) : Int)))))] [(2000, (.arr 6 (all.map D.Answer.cells))), (1, a'2)] (by kernel_rfl) (by kernel_rfl) ?_
  refine AWp.cond (decide (((all.length + 1 : Nat) : Int) ≤ ((1 + (nextN L d 7) : Nat) : Int))) rfl (fun hc4 => ?_) (fun hc4 => ?_)
  ·skip
   replace hc4 := of_decide_eq_true hc4
   refine AWp.skip ?_
   refine nextQ_normal ?_
   refine AWp.seq ?_
   refine AWp.block ?_
   have hf5 := nextN_lt L (nextI L d 7) 3 (by omega)
   have hf6 := nextN_lt L (nextI L (nextI L d 7) 3) 4 (by omega)
   let a'4 : AO := (.box [(.p (.sl false 1 (L.map D.cInt))), (vI ((ansI L (nextI L (nextI L (nextI L d 7) 3) 4) : Nat) : Int))])
   let a'5 : AV := (.own 2000 (((all ++ [(ansP L (nextI L (nextI L (nextI L d 7) 3) 4) ((all.length + 1 : Nat) : Int) ((1 + (nextN L (nextI L d 7) 3) : Nat) : Int) ((864000 + (nextN L (nextI L (nextI L d 7) 3) 4) : Nat) : Int))]).map D.Answer.cells).length))
   let a'6 : AO := (.arr 6 ((all ++ [(ansP L (nextI L (nextI L (nextI L d 7) 3) 4) ((all.length + 1 : Nat) : Int) ((1 + (nextN L (nextI L d 7) 3) : Nat) : Int) ((864000 + (nextN L (nextI L (nextI L d 7) 3) 4) : Nat) : Int))]).map D.Answer.cells))
   refine AWp.reg' hGn hGk [.a, .a, .a, .a, .m (some 31) ⟨[(30, (.ref 1 0))], [(1, a'2)], (vI ((nextN L (nextI L d 7) 3 : Nat) : Int)), [(1, (.box [(.p (.sl false 1 (L.map D.cInt))), (vI ((nextI L (nextI L d 7) 3 : Nat) : Int))]))], []⟩, .m (some 32) ⟨[(31, (vI ((nextN L (nextI L d 7) 3 : Nat) : Int)))], [], (vI ((1 + (nextN L (nextI L d 7) 3) : Nat) : Int)), [], []⟩, .a, .m (some 34) ⟨[(33, (.ref 1 0))], [(1, (.box [(.p (.sl false 1 (L.map D.cInt))), (vI ((nextI L (nextI L d 7) 3 : Nat) : Int))]))], (vI ((nextN L (nextI L (nextI L d 7) 3) 4 : Nat) : Int)), [(1, (.box [(.p (.sl false 1 (L.map D.cInt))), (vI ((nextI L (nextI L (nextI L d 7) 3) 4 : Nat) : Int))]))], []⟩, .m (some 35) ⟨[(34, (vI ((nextN L (nextI L (nextI L d 7) 3) 4 : Nat) : Int)))], [], (vI ((864000 + (nextN L (nextI L (nextI L d 7) 3) 4) : Nat) : Int)), [], []⟩, .m (some 36) ⟨[(28, (.ref 1 0)), (29, (vI ((all.length + 1 : Nat) : Int))), (32, (vI ((1 + (nextN L (nextI L d 7) 3) : Nat) : Int))), (35, (vI ((864000 + (nextN L (nextI L (nextI L d 7) 3) 4) : Nat) : Int)))], [(1, (.box [(.p (.sl false 1 (L.map D.cInt))), (vI ((nextI L (nextI L (nextI L d 7) 3) 4 : Nat) : Int))]))], (.agg [(vI ((ansP L (nextI L (nextI L (nextI L d 7) 3) 4) ((all.length + 1 : Nat) : Int) ((1 + (nextN L (nextI L d 7) 3) : Nat) : Int) ((864000 + (nextN L (nextI L (nextI L d 7) 3) 4) : Nat) : Int)).ID)), (vI ((ansP L (nextI L (nextI L (nextI L d 7) 3) 4) ((all.length + 1 : Nat) : Int) ((1 + (nextN L (nextI L d 7) 3) : Nat) : Int) ((864000 + (nextN L (nextI L (nextI L d 7) 3) 4) : Nat) : Int)).Page)), (vI ((ansP L (nextI L (nextI L (nextI L d 7) 3) 4) ((all.length + 1 : Nat) : Int) ((1 + (nextN L (nextI L d 7) 3) : Nat) : Int) ((864000 + (nextN L (nextI L (nextI L d 7) 3) 4) : Nat) : Int)).Person)), (vI ((ansP L (nextI L (nextI L (nextI L d 7) 3) 4) ((all.length + 1 : Nat) : Int) ((1 + (nextN L (nextI L d 7) 3) : Nat) : Int) ((864000 + (nextN L (nextI L (nextI L d 7) 3) 4) : Nat) : Int)).Kind)), (vI ((ansP L (nextI L (nextI L (nextI L d 7) 3) 4) ((all.length + 1 : Nat) : Int) ((1 + (nextN L (nextI L d 7) 3) : Nat) : Int) ((864000 + (nextN L (nextI L (nextI L d 7) 3) 4) : Nat) : Int)).Arg)), (vI ((ansP L (nextI L (nextI L (nextI L d 7) 3) 4) ((all.length + 1 : Nat) : Int) ((1 + (nextN L (nextI L d 7) 3) : Nat) : Int) ((864000 + (nextN L (nextI L (nextI L d 7) 3) 4) : Nat) : Int)).At))]), [(1, a'4)], []⟩, .a, .m (some 38) ⟨[(27, a'3), (37, (.p (.sl true 6 [[(pI ((ansP L (nextI L (nextI L (nextI L d 7) 3) 4) ((all.length + 1 : Nat) : Int) ((1 + (nextN L (nextI L d 7) 3) : Nat) : Int) ((864000 + (nextN L (nextI L (nextI L d 7) 3) 4) : Nat) : Int)).ID)), (pI ((ansP L (nextI L (nextI L (nextI L d 7) 3) 4) ((all.length + 1 : Nat) : Int) ((1 + (nextN L (nextI L d 7) 3) : Nat) : Int) ((864000 + (nextN L (nextI L (nextI L d 7) 3) 4) : Nat) : Int)).Page)), (pI ((ansP L (nextI L (nextI L (nextI L d 7) 3) 4) ((all.length + 1 : Nat) : Int) ((1 + (nextN L (nextI L d 7) 3) : Nat) : Int) ((864000 + (nextN L (nextI L (nextI L d 7) 3) 4) : Nat) : Int)).Person)), (pI ((ansP L (nextI L (nextI L (nextI L d 7) 3) 4) ((all.length + 1 : Nat) : Int) ((1 + (nextN L (nextI L d 7) 3) : Nat) : Int) ((864000 + (nextN L (nextI L (nextI L d 7) 3) 4) : Nat) : Int)).Kind)), (pI ((ansP L (nextI L (nextI L (nextI L d 7) 3) 4) ((all.length + 1 : Nat) : Int) ((1 + (nextN L (nextI L d 7) 3) : Nat) : Int) ((864000 + (nextN L (nextI L (nextI L d 7) 3) 4) : Nat) : Int)).Arg)), (pI ((ansP L (nextI L (nextI L (nextI L d 7) 3) 4) ((all.length + 1 : Nat) : Int) ((1 + (nextN L (nextI L d 7) 3) : Nat) : Int) ((864000 + (nextN L (nextI L (nextI L d 7) 3) 4) : Nat) : Int)).At))]])))], [(2000, (.arr 6 (all.map D.Answer.cells)))], a'5, [(2000, a'6)], []⟩, .a] ⟨StepOK.p rfl rfl rfl (OpOK.call rfl (by kernel_rfl) rfl (made_Next L (nextI L d 7) 3 hL (by repeat (first | assumption | exact Nat.zero_le _ | apply nextI_le | apply crewI_le | apply ansI_le | apply oddAI_le | apply oneI_le | apply targetI_le | apply teamI_le | apply stepI_le | apply policyI_le)) (by omega)) (by kernel_rfl)),
    StepOK.p rfl rfl rfl (OpOK.add rfl rfl rfl (by rw [IntWalk.i64_in _ ⟨by omega, by omega⟩]; omega)),
    StepOK.p rfl rfl rfl (OpOK.call rfl (by kernel_rfl) rfl (made_Next L (nextI L (nextI L d 7) 3) 4 hL (by repeat (first | assumption | exact Nat.zero_le _ | apply nextI_le | apply crewI_le | apply ansI_le | apply oddAI_le | apply oneI_le | apply targetI_le | apply teamI_le | apply stepI_le | apply policyI_le)) (by omega)) (by kernel_rfl)),
    StepOK.p rfl rfl rfl (OpOK.add rfl rfl rfl (by rw [IntWalk.i64_in _ ⟨by omega, by omega⟩]; omega)),
    StepOK.p rfl rfl rfl (OpOK.call rfl (by kernel_rfl) rfl (made_Answer L (nextI L (nextI L (nextI L d 7) 3) 4) ((all.length + 1 : Nat) : Int) ((1 + (nextN L (nextI L d 7) 3) : Nat) : Int) ((864000 + (nextN L (nextI L (nextI L d 7) 3) 4) : Nat) : Int) hL (by repeat (first | assumption | exact Nat.zero_le _ | apply nextI_le | apply crewI_le | apply ansI_le | apply oddAI_le | apply oneI_le | apply targetI_le | apply teamI_le | apply stepI_le | apply policyI_le))) (by kernel_rfl)),
    StepOK.p rfl rfl rfl (OpOK.appendOwn (e := 39) (bytes := 48) rfl rfl (by kernel_rfl) (by kernel_rfl) rfl (Nat.beq_refl _) rfl (by rw [List.map_append]; rfl) rfl (by simp only [List.length_map, List.length_cons, List.length_nil]; omega) (by simp only [List.length_map, List.length_cons, List.length_nil]; omega)), trivial⟩ [(3, (.ref 1 0)), (4, a'5), (5, (vI ((all.length + 1 : Nat) : Int)))] [(2000, a'6), (1, a'4)] (by kernel_rfl) (by kernel_rfl) ?_
   refine blockQ_normal ?_
   refine nextQ_normal ?_
   refine AWp.reg' hGn hGk [.a, .m (some 26) ⟨[(25, (vI ((all.length + 1 : Nat) : Int)))], [], (vI (((all.length + 1) + 1 : Nat) : Int)), [], []⟩, .a] ⟨StepOK.p rfl rfl rfl (OpOK.add rfl rfl rfl (by rw [IntWalk.i64_in _ ⟨by omega, by omega⟩]; omega)), trivial⟩ [(3, (.ref 1 0)), (4, a'5), (5, (vI (((all.length + 1) + 1 : Nat) : Int)))] [(2000, a'6), (1, a'4)] (by kernel_rfl) (by kernel_rfl) ?_
   refine nextQ_normal ⟨_, ?_, (all ++ [(ansP L (nextI L (nextI L (nextI L d 7) 3) 4) ((all.length + 1 : Nat) : Int) ((1 + (nextN L (nextI L d 7) 3) : Nat) : Int) ((864000 + (nextN L (nextI L (nextI L d 7) 3) 4) : Nat) : Int))]), (ansI L (nextI L (nextI L (nextI L d 7) 3) 4)), (by simp only [List.length_append, List.length_cons, List.length_nil]; rfl), (ho.snoc (by simp only [ansP]; omega) (ansP_valid _ _ ⟨by omega, by omega⟩ ⟨by omega, by omega⟩ ⟨by omega, by omega⟩) (by simp only [ansP]; omega)), (by simp only [List.length_append, List.length_cons, List.length_nil]; omega), (by repeat (first | assumption | exact Nat.zero_le _ | apply nextI_le | apply crewI_le | apply ansI_le | apply oddAI_le | apply oneI_le | apply targetI_le | apply teamI_le | apply stepI_le | apply policyI_le)), (.inl (by simp only [List.length_append, List.length_cons, List.length_nil]; omega)), rfl⟩
   · simp only [List.length_append, List.length_cons, List.length_nil]; omega
  ·skip
   replace hc4 := of_decide_eq_false hc4
   refine AWp.weaken (mk [(3, (.ref 1 0)), (4, a'3)] [(2000, (.arr 6 (all.map D.Answer.cells))), (1, a'2)]) (Weak.sub' hGk (by kernel_rfl)) ?_
   refine AWp.exit ?_
   refine nextQ_exit ?_
   refine nextQ_exit ?_
   refine blockQ_exit ?_
   refine nextQ_normal ?_
   have hne : 1 ≤ all.length := by rcases h1 with h | h; exact h; subst h; exfalso; simp only [List.length_nil] at *; omega
   let a'7 : AV := (.p (.sl false 6 (all.map D.Answer.cells)))
   refine AWp.weaken (mk [(3, (.ref 1 0)), (4, a'7)] [(1, a'2)]) (Weak.freeze (n := 2000) (es := 6) (rows := (all.map D.Answer.cells)) (by rw [hGk]; decide) ⟨rfl, (.same rfl), ⟨rfl, .own, trivial⟩⟩ ⟨rfl, by decide, (.same rfl), trivial⟩) ?_
   obtain ⟨d0, he0, hd0⟩ : ∃ d0, nextI L d 7 = d0 ∧ d0 ≤ L.length := ⟨_, rfl, (by repeat (first | assumption | exact Nat.zero_le _ | apply nextI_le | apply crewI_le | apply ansI_le | apply oddAI_le | apply oneI_le | apply targetI_le | apply teamI_le | apply stepI_le | apply policyI_le))⟩
   refine AWp.cast (show (mk [(3, (.ref 1 0)), (4, (.p (.sl false 6 (all.map D.Answer.cells))))] [(1, (.box [(.p (.sl false 1 (L.map D.cInt))), (vI ((nextI L d 7 : Nat) : Int))]))]) = (mk [(3, (.ref 1 0)), (4, (.p (.sl false 6 (all.map D.Answer.cells))))] [(1, (.box [(.p (.sl false 1 (L.map D.cInt))), (vI ((d0 : Nat) : Int))]))]) from (by rw [he0])) ?_
   let a'8 : AO := (.box [(.p (.sl false 1 (L.map D.cInt))), (vI ((d0 : Nat) : Int))])
   refine AWp.s_reg hGn hGk (aa 2) (Man.aa _ _) [(3, (.ref 1 0)), (4, a'7), (6, (.p (.sl true 0 []))), (7, (.p (.sl true 0 [])))] [(1, a'8)] (by kernel_rfl) (by kernel_rfl) ?_
   refine AWp.seq ?_
   refine AWp.s_reg hGn hGk [.a, .m (some 40) ⟨[(39, a'7)], [], (vI ((all.length : Nat) : Int)), [], []⟩, .a] ⟨StepOK.p rfl rfl rfl (OpOK.lenP (e := 39) rfl rfl (by kernel_rfl) rfl (by rw [List.length_map])), trivial⟩ [(3, (.ref 1 0)), (4, a'7), (6, (.p (.sl true 0 []))), (7, (.p (.sl true 0 []))), (39, a'7), (40, (vI ((all.length : Nat) : Int))), (41, (vI 0))] [(1, a'8)] (by kernel_rfl) (by kernel_rfl) ?_
   refine AWp.block ?_
   refine AWp.weaken (mk [(3, (.ref 1 0)), (4, a'7), (6, (.p (.sl false 6 []))), (7, (.p (.sl false 6 []))), (39, a'7), (40, (vI ((all.length : Nat) : Int))), (41, (vI 0))] [(1, a'8)]) (Weak.le ⟨rfl, .refl _, ⟨rfl, .refl _, ⟨rfl, (.p (PVle.nil (by simp))), ⟨rfl, (.p (PVle.nil (by simp))), ⟨rfl, .refl _, ⟨rfl, .refl _, ⟨rfl, .refl _, trivial⟩⟩⟩⟩⟩⟩⟩ ⟨rfl, .refl _, trivial⟩) ?_
   refine AWp.loop (fun m s => ∃ k, ∃ (as1 : List D.Answer), s = (mk [(3, (.ref 1 0)), (4, (.p (.sl false 6 (all.map D.Answer.cells)))), (6, (.p (.sl false 6 (as1.map D.Answer.cells)))), (7, (.p (.sl false 6 []))), (39, (.p (.sl false 6 (all.map D.Answer.cells)))), (40, (vI ((all.length : Nat) : Int))), (41, (vI ((k : Nat) : Int)))] [(1, (.box [(.p (.sl false 1 (L.map D.cInt))), (vI ((d0 : Nat) : Int))]))]) ∧ (k ≤ all.length) ∧ (Merged all as1 fun j => j < k) ∧ (as1.length = k) ∧ m = (all.length - k))
    ⟨_, 0, ([]), rfl, (by omega), ((Merged.nil all).congr fun j hj => ⟨fun h => h.elim, fun h => absurd h (Nat.not_lt_zero j)⟩), rfl, rfl⟩ ?_
   rintro mm7 s ⟨k, as1, rfl, hk, hm, hkl, hmm7⟩
   have hkk := mergeA_len as1 (nth all k)
   let a'9 : AV := (.p (.sl false 6 (as1.map D.Answer.cells)))
   refine AWp.s_reg hGn hGk (aa 1) (Man.aa _ _) [(3, (.ref 1 0)), (4, a'7), (6, a'9), (7, (.p (.sl false 6 []))), (39, a'7), (40, (vI ((all.length : Nat) : Int))), (41, (vI ((k : Nat) : Int))), (42, (vB (decide (((k : Nat) : Int) < ((all.length : Nat) : Int)))))] [(1, a'8)] (by kernel_rfl) (by kernel_rfl) ?_
   refine AWp.seq ?_
   refine AWp.cond (decide (((k : Nat) : Int) < ((all.length : Nat) : Int))) rfl (fun hc8 => ?_) (fun hc8 => ?_)
   ·skip
    replace hc8 := of_decide_eq_true hc8
    refine AWp.skip ?_
    refine nextQ_normal ?_
    refine AWp.seq ?_
    refine AWp.block ?_
    refine AWp.s_reg hGn hGk [.m (some 43) ⟨[(39, a'7), (41, (vI ((k : Nat) : Int)))], [], (.eptr [(pI ((nth all k).ID)), (pI ((nth all k).Page)), (pI ((nth all k).Person)), (pI ((nth all k).Kind)), (pI ((nth all k).Arg)), (pI ((nth all k).At))]), [], []⟩, .a, .a, .a] ⟨StepOK.p rfl rfl rfl (OpOK.indexP (e := 39) rfl (by kernel_rfl) (by kernel_rfl) rfl rfl rfl (map_nth (by omega))), trivial⟩ [(3, (.ref 1 0)), (4, a'7), (6, a'9), (7, (.p (.sl false 6 []))), (9, (.ref 1009 0)), (39, a'7), (40, (vI ((all.length : Nat) : Int))), (41, (vI ((k : Nat) : Int)))] [(1, a'8), (1009, (.box [(vI ((nth all k).ID)), (vI ((nth all k).Page)), (vI ((nth all k).Person)), (vI ((nth all k).Kind)), (vI ((nth all k).Arg)), (vI ((nth all k).At))]))] (by kernel_rfl) (by kernel_rfl) ?_
    let a'10 : AV := (.p (.sl false 6 (((mergeA as1 (nth all k)).1).map D.Answer.cells)))
    refine AWp.reg' hGn hGk [.a, .a, .m (some 48) ⟨[(46, a'9), (47, (.agg [(vI ((nth all k).ID)), (vI ((nth all k).Page)), (vI ((nth all k).Person)), (vI ((nth all k).Kind)), (vI ((nth all k).Arg)), (vI ((nth all k).At))]))], [], (.tup [a'10, (vB ((mergeA as1 (nth all k)).2))]), [], []⟩, .a, .a, .a, .a] ⟨StepOK.p rfl rfl rfl (OpOK.call rfl (by kernel_rfl) rfl (ans_Merge as1 (nth all k) (by omega)) (by kernel_rfl)), trivial⟩ [(3, (.ref 1 0)), (4, a'7), (6, a'10), (7, (.p (.sl false 6 []))), (39, a'7), (40, (vI ((all.length : Nat) : Int))), (41, (vI ((k : Nat) : Int)))] [(1, a'8)] (by kernel_rfl) (by kernel_rfl) ?_
    refine blockQ_normal ?_
    refine nextQ_normal ?_
    refine AWp.reg' hGn hGk [.m (some 51) ⟨[(41, (vI ((k : Nat) : Int)))], [], (vI ((k + 1 : Nat) : Int)), [], []⟩, .a] ⟨StepOK.p rfl rfl rfl (OpOK.add rfl rfl rfl (by rw [IntWalk.i64_in _ ⟨by omega, by omega⟩]; omega)), trivial⟩ [(3, (.ref 1 0)), (4, a'7), (6, a'10), (7, (.p (.sl false 6 []))), (39, a'7), (40, (vI ((all.length : Nat) : Int))), (41, (vI ((k + 1 : Nat) : Int)))] [(1, a'8)] (by kernel_rfl) (by kernel_rfl) ?_
    refine nextQ_normal ⟨_, ?_, (k + 1), ((mergeA as1 (nth all k)).1), rfl, (by omega), (((hm.step ho (by omega)).1).congr fun j hj => by omega), (by rw [(hm.step ho (j := k) (by omega)).2 (by omega), hkl]), rfl⟩
    · omega
   ·skip
    replace hc8 := of_decide_eq_false hc8
    refine AWp.weaken (mk [(3, (.ref 1 0)), (4, a'7), (6, a'9), (7, (.p (.sl false 6 [])))] [(1, a'8)]) (Weak.sub' hGk (by kernel_rfl)) ?_
    refine AWp.exit ?_
    refine nextQ_exit ?_
    refine nextQ_exit ?_
    refine blockQ_exit ?_
    refine nextQ_normal ?_
    refine AWp.seq ?_
    refine AWp.s_reg hGn hGk (aa 1) (Man.aa _ _) [(3, (.ref 1 0)), (4, a'7), (6, a'9), (7, (.p (.sl false 6 []))), (10, (vI 0))] [(1, a'8)] (by kernel_rfl) (by kernel_rfl) ?_
    refine AWp.block ?_
    refine AWp.loop (fun m s => ∃ k2, ∃ (bs : List D.Answer), ∃ d2, ∃ (S2 : Nat → Prop), s = (mk [(3, (.ref 1 0)), (4, (.p (.sl false 6 (all.map D.Answer.cells)))), (6, (.p (.sl false 6 (as1.map D.Answer.cells)))), (7, (.p (.sl false 6 (bs.map D.Answer.cells)))), (10, (vI ((k2 : Nat) : Int)))] [(1, (.box [(.p (.sl false 1 (L.map D.cInt))), (vI ((d2 : Nat) : Int))]))]) ∧ (k2 ≤ 20) ∧ (Merged all bs S2) ∧ (d2 ≤ L.length) ∧ (bs.length ≤ k2) ∧ m = (20 - k2))
     ⟨_, 0, ([]), d0, (fun _ => False), rfl, (by omega), (Merged.nil all), (by omega), (Nat.le_refl _), rfl⟩ ?_
    rintro mm9 s ⟨k2, bs, d2, S2, rfl, hk2, hm2, hd2, hbl, hmm9⟩
    have hnx := nextN_lt L d2 ((all.length : Nat) : Int) (by omega)
    refine AWp.seq ?_
    let a'11 : AV := (.p (.sl false 6 (bs.map D.Answer.cells)))
    refine AWp.s_reg hGn hGk (aa 2) (Man.aa _ _) [(3, (.ref 1 0)), (4, a'7), (6, a'9), (7, a'11), (10, (vI ((k2 : Nat) : Int))), (53, (vB (decide (((k2 : Nat) : Int) < (20 : Int)))))] [(1, (.box [(.p (.sl false 1 (L.map D.cInt))), (vI ((d2 : Nat) : Int))]))] (by kernel_rfl) (by kernel_rfl) ?_
    refine AWp.cond (decide (((k2 : Nat) : Int) < (20 : Int))) rfl (fun hc10 => ?_) (fun hc10 => ?_)
    ·skip
     replace hc10 := of_decide_eq_true hc10
     refine AWp.skip ?_
     refine nextQ_normal ?_
     refine AWp.seq ?_
     refine AWp.block ?_
     let a'12 : AO := (.box [(.p (.sl false 1 (L.map D.cInt))), (vI ((nextI L d2 ((all.length : Nat) : Int) : Nat) : Int))])
     let a'13 : AV := (.p (.sl false 6 (((mergeA bs (nth all (nextN L d2 ((all.length : Nat) : Int)))).1).map D.Answer.cells)))
     refine AWp.reg' hGn hGk [.a, .a, .a, .a, .m (some 61) ⟨[(60, a'7)], [], (vI ((all.length : Nat) : Int)), [], []⟩, .m (some 62) ⟨[(59, (.ref 1 0)), (61, (vI ((all.length : Nat) : Int)))], [(1, (.box [(.p (.sl false 1 (L.map D.cInt))), (vI ((d2 : Nat) : Int))]))], (vI ((nextN L d2 ((all.length : Nat) : Int) : Nat) : Int)), [(1, a'12)], []⟩, .m (some 63) ⟨[(58, a'7), (62, (vI ((nextN L d2 ((all.length : Nat) : Int) : Nat) : Int)))], [], (.eptr [(pI ((nth all (nextN L d2 ((all.length : Nat) : Int))).ID)), (pI ((nth all (nextN L d2 ((all.length : Nat) : Int))).Page)), (pI ((nth all (nextN L d2 ((all.length : Nat) : Int))).Person)), (pI ((nth all (nextN L d2 ((all.length : Nat) : Int))).Kind)), (pI ((nth all (nextN L d2 ((all.length : Nat) : Int))).Arg)), (pI ((nth all (nextN L d2 ((all.length : Nat) : Int))).At))]), [], []⟩, .a, .m (some 65) ⟨[(57, a'11), (64, (.agg [(vI ((nth all (nextN L d2 ((all.length : Nat) : Int))).ID)), (vI ((nth all (nextN L d2 ((all.length : Nat) : Int))).Page)), (vI ((nth all (nextN L d2 ((all.length : Nat) : Int))).Person)), (vI ((nth all (nextN L d2 ((all.length : Nat) : Int))).Kind)), (vI ((nth all (nextN L d2 ((all.length : Nat) : Int))).Arg)), (vI ((nth all (nextN L d2 ((all.length : Nat) : Int))).At))]))], [], (.tup [a'13, (vB ((mergeA bs (nth all (nextN L d2 ((all.length : Nat) : Int)))).2))]), [], []⟩, .a, .a, .a, .a] ⟨StepOK.p rfl rfl rfl (OpOK.lenP (e := 39) rfl rfl (by kernel_rfl) rfl (by rw [List.length_map])),
      StepOK.p rfl rfl rfl (OpOK.call rfl (by kernel_rfl) rfl (made_Next L d2 ((all.length : Nat) : Int) hL (by repeat (first | assumption | exact Nat.zero_le _ | apply nextI_le | apply crewI_le | apply ansI_le | apply oddAI_le | apply oneI_le | apply targetI_le | apply teamI_le | apply stepI_le | apply policyI_le)) (by omega)) (by kernel_rfl)),
      StepOK.p rfl rfl rfl (OpOK.indexP (e := 39) rfl (by kernel_rfl) (by kernel_rfl) rfl rfl rfl (map_nth (by omega))),
      StepOK.p rfl rfl rfl (OpOK.call rfl (by kernel_rfl) rfl (ans_Merge bs (nth all (nextN L d2 ((all.length : Nat) : Int))) (by omega)) (by kernel_rfl)), trivial⟩ [(3, (.ref 1 0)), (4, a'7), (6, a'9), (7, a'13), (10, (vI ((k2 : Nat) : Int)))] [(1, a'12)] (by kernel_rfl) (by kernel_rfl) ?_
     refine blockQ_normal ?_
     refine nextQ_normal ?_
     refine AWp.reg' hGn hGk [.a, .m (some 55) ⟨[(54, (vI ((k2 : Nat) : Int)))], [], (vI ((k2 + 1 : Nat) : Int)), [], []⟩, .a] ⟨StepOK.p rfl rfl rfl (OpOK.add rfl rfl rfl (by rw [IntWalk.i64_in _ ⟨by omega, by omega⟩]; omega)), trivial⟩ [(3, (.ref 1 0)), (4, a'7), (6, a'9), (7, a'13), (10, (vI ((k2 + 1 : Nat) : Int)))] [(1, a'12)] (by kernel_rfl) (by kernel_rfl) ?_
     refine nextQ_normal ⟨_, ?_, (k2 + 1), ((mergeA bs (nth all (nextN L d2 ((all.length : Nat) : Int)))).1), (nextI L d2 ((all.length : Nat) : Int)), (fun j => S2 j ∨ j = nextN L d2 ((all.length : Nat) : Int)), rfl, (by omega), (hm2.step ho (by omega)).1, (by repeat (first | assumption | exact Nat.zero_le _ | apply nextI_le | apply crewI_le | apply ansI_le | apply oddAI_le | apply oneI_le | apply targetI_le | apply teamI_le | apply stepI_le | apply policyI_le)), (Nat.le_trans (mergeA_len _ _) (by omega)), rfl⟩
     · omega
    ·skip
     replace hc10 := of_decide_eq_false hc10
     refine AWp.weaken (mk [(4, a'7), (6, a'9), (7, a'11)] []) (Weak.sub' hGk (by kernel_rfl)) ?_
     refine AWp.exit ?_
     refine nextQ_exit ?_
     refine nextQ_exit ?_
     refine blockQ_exit ?_
     refine nextQ_normal ?_
     refine AWp.seq ?_
     refine AWp.s_reg hGn hGk [.a, .m (some 69) ⟨[(68, a'7)], [], (vI ((all.length : Nat) : Int)), [], []⟩, .m (some 70) ⟨[(69, (vI ((all.length : Nat) : Int)))], [], (vI (((all.length : Nat) : Int) - 1)), [], []⟩, .a] ⟨StepOK.p rfl rfl rfl (OpOK.lenP (e := 39) rfl rfl (by kernel_rfl) rfl (by rw [List.length_map])),
      StepOK.p rfl rfl rfl (OpOK.sub rfl rfl rfl (IntWalk.i64_in _ ⟨by omega, by omega⟩)), trivial⟩ [(4, a'7), (6, a'9), (7, a'11), (11, (vI (((all.length : Nat) : Int) - 1)))] [] (by kernel_rfl) (by kernel_rfl) ?_
     refine AWp.block ?_
     refine AWp.loop (fun m s => ∃ k3, ∃ (cs : List D.Answer), ∃ (S3 : Nat → Prop), s = (mk [(4, (.p (.sl false 6 (all.map D.Answer.cells)))), (6, (.p (.sl false 6 (as1.map D.Answer.cells)))), (7, (.p (.sl false 6 (cs.map D.Answer.cells)))), (11, (vI (((k3 : Nat) : Int) - 1)))] []) ∧ (k3 ≤ all.length) ∧ (Merged all cs S3) ∧ (∀ j, k3 ≤ j → j < all.length → S3 j) ∧ (cs.length ≤ 40 - k3) ∧ m = k3)
      ⟨_, all.length, bs, S2, rfl, (by omega), hm2, (fun j h1 h2 => by omega), (by omega), rfl⟩ ?_
     rintro mm11 s ⟨k3, cs, S3, rfl, hk3, hm3, hs3, hcl, hmm11⟩
     refine AWp.seq ?_
     let a'14 : AV := (.p (.sl false 6 (cs.map D.Answer.cells)))
     refine AWp.s_reg hGn hGk (aa 2) (Man.aa _ _) [(4, a'7), (6, a'9), (7, a'14), (11, (vI (((k3 : Nat) : Int) - 1))), (72, (vB (decide ((0 : Int) ≤ (((k3 : Nat) : Int) - 1)))))] [] (by kernel_rfl) (by kernel_rfl) ?_
     refine AWp.cond (decide ((0 : Int) ≤ (((k3 : Nat) : Int) - 1))) rfl (fun hc12 => ?_) (fun hc12 => ?_)
     ·skip
      replace hc12 := of_decide_eq_true hc12
      refine AWp.skip ?_
      refine nextQ_normal ?_
      refine AWp.seq ?_
      refine AWp.block ?_
      let a'15 : AV := (.p (.sl false 6 (((mergeA cs (nth all (k3 - 1))).1).map D.Answer.cells)))
      refine AWp.reg' hGn hGk [.a, .a, .a, .m (some 79) ⟨[(77, a'7), (78, (vI (((k3 : Nat) : Int) - 1)))], [], (.eptr [(pI ((nth all (k3 - 1)).ID)), (pI ((nth all (k3 - 1)).Page)), (pI ((nth all (k3 - 1)).Person)), (pI ((nth all (k3 - 1)).Kind)), (pI ((nth all (k3 - 1)).Arg)), (pI ((nth all (k3 - 1)).At))]), [], []⟩, .a, .m (some 81) ⟨[(76, a'14), (80, (.agg [(vI ((nth all (k3 - 1)).ID)), (vI ((nth all (k3 - 1)).Page)), (vI ((nth all (k3 - 1)).Person)), (vI ((nth all (k3 - 1)).Kind)), (vI ((nth all (k3 - 1)).Arg)), (vI ((nth all (k3 - 1)).At))]))], [], (.tup [a'15, (vB ((mergeA cs (nth all (k3 - 1))).2))]), [], []⟩, .a, .a, .a, .a] ⟨StepOK.p rfl rfl rfl (OpOK.indexP (e := 39) rfl (by kernel_rfl) (by kernel_rfl) rfl rfl (by omega) (map_nth_at (l := all) (f := D.Answer.cells) (i := (((k3 : Nat) : Int) - 1).toNat) (k := k3 - 1) (by omega) (by omega))),
       StepOK.p rfl rfl rfl (OpOK.call rfl (by kernel_rfl) rfl (ans_Merge cs (nth all (k3 - 1)) (by omega)) (by kernel_rfl)), trivial⟩ [(4, a'7), (6, a'9), (7, a'15), (11, (vI (((k3 : Nat) : Int) - 1)))] [] (by kernel_rfl) (by kernel_rfl) ?_
      refine blockQ_normal ?_
      refine nextQ_normal ?_
      refine AWp.reg' hGn hGk [.a, .m (some 74) ⟨[(73, (vI (((k3 : Nat) : Int) - 1)))], [], (vI ((((k3 : Nat) : Int) - 1) - 1)), [], []⟩, .a] ⟨StepOK.p rfl rfl rfl (OpOK.sub rfl rfl rfl (IntWalk.i64_in _ ⟨by omega, by omega⟩)), trivial⟩ [(4, a'7), (6, a'9), (7, a'15), (11, (vI ((((k3 : Nat) : Int) - 1) - 1)))] [] (by kernel_rfl) (by kernel_rfl) ?_
      refine nextQ_normal ⟨_, ?_, (k3 - 1), ((mergeA cs (nth all (k3 - 1))).1), (fun j => S3 j ∨ j = k3 - 1), (by rw [show (((k3 - 1 : Nat) : Int) - 1) = ((k3 : Nat) : Int) - 1 - 1 by omega] <;> rfl), (by omega), (hm3.step ho (j := k3 - 1) (by omega)).1, (fun j h1 h2 => by rcases Nat.lt_or_ge j k3 with h | h; exact .inr (by omega); exact .inl (hs3 j h h2)), (Nat.le_trans (mergeA_len _ _) (by omega)), rfl⟩
      · omega
     ·skip
      replace hc12 := of_decide_eq_false hc12
      refine AWp.weaken (mk [(4, a'7), (6, a'9), (7, a'14)] []) (Weak.sub' hGk (by kernel_rfl)) ?_
      refine AWp.exit ?_
      refine nextQ_exit ?_
      refine nextQ_exit ?_
      refine blockQ_exit ?_
      refine nextQ_normal ?_
      refine AWp.s_reg hGn hGk (aa 1) (Man.aa _ _) [(4, a'7), (6, a'9), (7, a'14), (12, (vI 0))] [] (by kernel_rfl) (by kernel_rfl) ?_
      refine AWp.seq ?_
      refine AWp.s_reg hGn hGk (aa 1) (Man.aa _ _) [(4, a'7), (6, a'9), (7, a'14), (12, (vI 0)), (13, (vI 1))] [] (by kernel_rfl) (by kernel_rfl) ?_
      refine AWp.block ?_
      refine AWp.loop (fun m s => ∃ q, s = (mk [(4, (.p (.sl false 6 (all.map D.Answer.cells)))), (6, (.p (.sl false 6 (as1.map D.Answer.cells)))), (7, (.p (.sl false 6 (cs.map D.Answer.cells)))), (12, (vI ((ofSum as1 q : Nat) : Int))), (13, (vI ((q + 1 : Nat) : Int)))] []) ∧ (q ≤ 3) ∧ m = (3 - q))
       ⟨_, 0, rfl, (by omega), rfl⟩ ?_
      rintro mm13 s ⟨q, rfl, hq, hmm13⟩
      have hos := ofSum_len as1 q
      have hqm : q * as1.length ≤ 3 * 7 := Nat.mul_le_mul hq (by omega)
      refine AWp.seq ?_
      refine AWp.s_reg hGn hGk (aa 2) (Man.aa _ _) [(4, a'7), (6, a'9), (7, a'14), (12, (vI ((ofSum as1 q : Nat) : Int))), (13, (vI ((q + 1 : Nat) : Int))), (85, (vB (decide (((q + 1 : Nat) : Int) ≤ (3 : Int)))))] [] (by kernel_rfl) (by kernel_rfl) ?_
      refine AWp.cond (decide (((q + 1 : Nat) : Int) ≤ (3 : Int))) rfl (fun hc14 => ?_) (fun hc14 => ?_)
      ·skip
       replace hc14 := of_decide_eq_true hc14
       refine AWp.skip ?_
       refine nextQ_normal ?_
       refine AWp.seq ?_
       refine AWp.block ?_
       have hf15 := ofA_len as1 ((q + 1 : Nat) : Int)
       refine AWp.reg' hGn hGk [.a, .a, .a, .m (some 91) ⟨[(89, a'9), (90, (vI ((q + 1 : Nat) : Int)))], [], (.p (.sl false 6 ((ofA as1 ((q + 1 : Nat) : Int)).map D.Answer.cells))), [], []⟩, .m (some 92) ⟨[(91, (.p (.sl false 6 ((ofA as1 ((q + 1 : Nat) : Int)).map D.Answer.cells))))], [], (vI (((ofA as1 ((q + 1 : Nat) : Int)).length : Nat) : Int)), [], []⟩, .m (some 93) ⟨[(88, (vI ((ofSum as1 q : Nat) : Int))), (92, (vI (((ofA as1 ((q + 1 : Nat) : Int)).length : Nat) : Int)))], [], (vI (((ofSum as1 q) + ((ofA as1 ((q + 1 : Nat) : Int)).length) : Nat) : Int)), [], []⟩, .a] ⟨StepOK.p rfl rfl rfl (OpOK.call rfl (by kernel_rfl) rfl (ans_Of as1 ((q + 1 : Nat) : Int) (by omega)) (by kernel_rfl)),
        StepOK.p rfl rfl rfl (OpOK.lenP (e := 39) rfl rfl (by kernel_rfl) rfl (by rw [List.length_map])),
        StepOK.p rfl rfl rfl (OpOK.add rfl rfl rfl (by rw [IntWalk.i64_in _ ⟨by omega, by omega⟩]; omega)), trivial⟩ [(4, a'7), (6, a'9), (7, a'14), (12, (vI (((ofSum as1 q) + ((ofA as1 ((q + 1 : Nat) : Int)).length) : Nat) : Int))), (13, (vI ((q + 1 : Nat) : Int)))] [] (by kernel_rfl) (by kernel_rfl) ?_
       refine blockQ_normal ?_
       refine nextQ_normal ?_
       refine AWp.reg' hGn hGk [.a, .m (some 87) ⟨[(86, (vI ((q + 1 : Nat) : Int)))], [], (vI (((q + 1) + 1 : Nat) : Int)), [], []⟩, .a] ⟨StepOK.p rfl rfl rfl (OpOK.add rfl rfl rfl (by rw [IntWalk.i64_in _ ⟨by omega, by omega⟩]; omega)), trivial⟩ [(4, a'7), (6, a'9), (7, a'14), (12, (vI (((ofSum as1 q) + ((ofA as1 ((q + 1 : Nat) : Int)).length) : Nat) : Int))), (13, (vI (((q + 1) + 1 : Nat) : Int)))] [] (by kernel_rfl) (by kernel_rfl) ?_
       refine nextQ_normal ⟨_, ?_, (q + 1), rfl, (by omega), rfl⟩
       · omega
      ·skip
       replace hc14 := of_decide_eq_false hc14
       refine AWp.weaken (mk [(4, a'7), (6, a'9), (7, a'14), (12, (vI ((ofSum as1 q : Nat) : Int)))] []) (Weak.sub' hGk (by kernel_rfl)) ?_
       refine AWp.exit ?_
       refine nextQ_exit ?_
       refine nextQ_exit ?_
       refine blockQ_exit ?_
       refine nextQ_normal ?_
       refine AWp.s_reg hGn hGk [.a, .a, .m (some 96) ⟨[(94, a'9), (95, a'14)], [], (vB true), [], []⟩, .a, .a, .m (some 99) ⟨[(98, a'9), (97, (vB true))], [], (vI ((as1.length : Nat) : Int)), [], []⟩, .a, .m (some 101) ⟨[(100, a'7), (97, (vB true))], [], (vI ((all.length : Nat) : Int)), [], []⟩, .m (some 102) ⟨[(99, (vI ((as1.length : Nat) : Int))), (101, (vI ((all.length : Nat) : Int))), (97, (vB true))], [], (vB true), [], []⟩, .a, .a, .a, .a, .m (some 107) ⟨[(106, a'9), (104, (vB true))], [], (vI ((as1.length : Nat) : Int)), [], []⟩, .m (some 108) ⟨[(105, (vI ((ofSum as1 q : Nat) : Int))), (107, (vI ((as1.length : Nat) : Int))), (104, (vB true))], [], (vB true), [], []⟩, .a, .a, .m (some 111) ⟨[(110, (vB true))], [], (vB true), [], []⟩, .a, .a] ⟨StepOK.p rfl rfl rfl (OpOK.call rfl (by kernel_rfl) rfl (Eq.mp (congrArg (fun z => SpecIs Tryz.prog 27 [a'9, (.p (.sl false 6 (z.map D.Answer.cells)))] [] (vB true) []) (hm.same hm3 (fun j hj => by omega) (fun j hj => hs3 j (by omega) hj))) (r28_SameR as1 (by omega))) (by kernel_rfl)),
        StepOK.g rfl rfl rfl rfl rfl (by simp) (OpOK.lenP (e := 39) rfl rfl (by kernel_rfl) rfl (by rw [List.length_map])),
        StepOK.g rfl rfl rfl rfl rfl (by simp) (OpOK.lenP (e := 39) rfl rfl (by kernel_rfl) rfl (by rw [List.length_map])),
        StepOK.g rfl rfl rfl rfl rfl (by simp) (OpOK.eqlI rfl rfl rfl (decide_eq_true (by omega))),
        StepOK.g rfl rfl rfl rfl rfl (by simp) (OpOK.lenP (e := 39) rfl rfl (by kernel_rfl) rfl (by rw [List.length_map])),
        StepOK.g rfl rfl rfl rfl rfl (by simp) (OpOK.eqlI rfl rfl rfl (decide_eq_true (by rw [show q = 3 by omega, ofSum_three, hm.pages ho]))),
        StepOK.g rfl rfl rfl rfl rfl (by simp) (OpOK.call rfl (by kernel_rfl) rfl law28_sane (by kernel_rfl)), trivial⟩ [(2, (vB true))] [] (by kernel_rfl) (by kernel_rfl) ?_
       refine AWp.ret ?_
       refine fin_of (.inr rfl) (v := (vB true)) (Res.tmp rfl rfl) (h' := []) rfl rfl ?_
       exact ⟨rfl, rfl⟩
end Go.Proofs.YtimfbibaoppfcaaGreatDoor
