/-
  The walks of package policy: counts and offsets; of the dice and their books. Printed by wip/gen/pol.py.
-/
import Derived.Test.YtimfbibaoppfcaaGreatDoorPolLaw
set_option maxRecDepth 100000
set_option linter.unusedSimpArgs false
set_option linter.unusedVariables false
namespace Go.Proofs.YtimfbibaoppfcaaGreatDoor
open Go AM
theorem pol_in (n lo hi : Int) :
    SpecIs Tryz.prog 88 [(vI n), (vI lo), (vI hi)] [] (vB (inB n lo hi)) [] := by
 refine Spec.intro Tryz.func88 rfl (by kernel_rfl) ?_
 intro Γ hGn hGk
 replace hGn : Γ.n = 15 := hGn
 replace hGk : Γ.names = [] := hGk
 refine AWp.weaken (mk [(0, (vI n)), (1, (vI lo)), (2, (vI hi))] []) (Weak.sub' hGk (by kernel_rfl)) ?_
 refine AWp.s_reg hGn hGk (aa 1) (Man.aa _ _) [(0, (vI n)), (1, (vI lo)), (2, (vI hi))] [] (by kernel_rfl) (by kernel_rfl) ?_
 by_cases hs1 : lo ≤ n
 ·skip
  refine AWp.s_reg hGn hGk [.a, .a, .m (some 9) ⟨[(7, (vI n)), (8, (vI lo))], [], (vB true), [], []⟩, .a, .a, .a, .a, .a, .a] ⟨StepOK.p rfl rfl rfl (OpOK.geq rfl rfl rfl (decide_eq_true hs1)), trivial⟩ [(6, (vB (decide (n ≤ hi))))] [] (by kernel_rfl) (by kernel_rfl) ?_
  refine AWp.ret ?_
  refine fin_of (.inr rfl) (v := (vB (decide (n ≤ hi)))) (Res.tmp rfl rfl) (h' := []) rfl rfl ?_
  exact ⟨by simp [inB, *], rfl⟩
 ·skip
  refine AWp.s_reg hGn hGk [.a, .a, .m (some 9) ⟨[(7, (vI n)), (8, (vI lo))], [], (vB false), [], []⟩, .a, .a, .a, .a, .a, .a] ⟨StepOK.p rfl rfl rfl (OpOK.geq rfl rfl rfl (decide_eq_false hs1)), trivial⟩ [(6, (vB false))] [] (by kernel_rfl) (by kernel_rfl) ?_
  refine AWp.ret ?_
  refine fin_of (.inr rfl) (v := (vB false)) (Res.tmp rfl rfl) (h' := []) rfl rfl ?_
  exact ⟨by simp [inB, *], rfl⟩
theorem pol_Count (p : D.Policy) (hl : p.Steps.length ≤ 1000000) :
    SpecIs Tryz.prog 56 [(.agg [(vS p.Name), (.p (.sl false 3 (p.Steps.map D.PolicyStep.cells))), (vI p.Repeat)])] [] (vI (count p)) [] := by
 refine Spec.intro Tryz.func56 rfl (by kernel_rfl) ?_
 intro Γ hGn hGk
 replace hGn : Γ.n = 20 := hGn
 replace hGk : Γ.names = [] := hGk
 let a'1 : AV := (.p (.sl false 3 (p.Steps.map D.PolicyStep.cells)))
 refine AWp.weaken (mk [(0, (.agg [(vS p.Name), a'1, (vI p.Repeat)]))] []) (Weak.sub' hGk (by kernel_rfl)) ?_
 let a'2 : AO := (.box [(vS p.Name), a'1, (vI p.Repeat)])
 refine AWp.s_reg hGn hGk (aa 2) (Man.aa _ _) [(1, (.ref 1001 0))] [(1001, a'2)] (by kernel_rfl) (by kernel_rfl) ?_
 refine AWp.seq ?_
 cases hs1 : inB p.Repeat 0 8
 ·skip
  have ha2 := inB_false hs1
  refine AWp.s_reg hGn hGk [.a, .a, .m (some 5) ⟨[(4, (vI p.Repeat))], [], (vB false), [], []⟩, .a, .a, .a, .a, .a, .a, .a] ⟨StepOK.p rfl rfl rfl (OpOK.call rfl (by kernel_rfl) rfl (by have hq := (pol_in p.Repeat 0 8); rw [hs1] at hq; exact hq) (by kernel_rfl)), trivial⟩ [(1, (.ref 1001 0)), (12, (vB true))] [(1001, a'2)] (by kernel_rfl) (by kernel_rfl) ?_
  refine AWp.cond_true rfl ?_
  refine AWp.s_reg hGn hGk (aa 1) (Man.aa _ _) [(2, (vI 0))] [] (by kernel_rfl) (by kernel_rfl) ?_
  refine AWp.ret ?_
  refine nextQ_ret ?_
  refine fin_of (.inr rfl) (v := (vI 0)) (Res.tmp rfl rfl) (h' := []) rfl rfl ?_
  exact ⟨by first | (simp [count, *]; done) | (simp [count, *]; omega), rfl⟩
 ·skip
  have ha3 := inB_spec hs1
  refine AWp.s_reg hGn hGk [.a, .a, .m (some 5) ⟨[(4, (vI p.Repeat))], [], (vB true), [], []⟩, .a, .a, .a, .a, .m (some 10) ⟨[(9, a'1), (7, (vB false))], [], (vI ((p.Steps.length : Nat) : Int)), [], []⟩, .a, .a] ⟨StepOK.p rfl rfl rfl (OpOK.call rfl (by kernel_rfl) rfl (by have hq := (pol_in p.Repeat 0 8); rw [hs1] at hq; exact hq) (by kernel_rfl)),
   StepOK.g rfl rfl rfl rfl rfl (by simp) (OpOK.lenP (e := 103) rfl rfl (by kernel_rfl) rfl (by rw [List.length_map])), trivial⟩ [(1, (.ref 1001 0)), (12, (vB (decide ((8 : Int) < ((p.Steps.length : Nat) : Int)))))] [(1001, a'2)] (by kernel_rfl) (by kernel_rfl) ?_
  refine AWp.cond (decide ((8 : Int) < ((p.Steps.length : Nat) : Int))) rfl (fun hc4 => ?_) (fun hc4 => ?_)
  ·skip
   replace hc4 := of_decide_eq_true hc4
   refine AWp.s_reg hGn hGk (aa 1) (Man.aa _ _) [(2, (vI 0))] [] (by kernel_rfl) (by kernel_rfl) ?_
   refine AWp.ret ?_
   refine nextQ_ret ?_
   refine fin_of (.inr rfl) (v := (vI 0)) (Res.tmp rfl rfl) (h' := []) rfl rfl ?_
   exact ⟨by first | (simp [count, *]; done) | (simp [count, *]; omega), rfl⟩
  ·skip
   replace hc4 := of_decide_eq_false hc4
   refine AWp.skip ?_
   refine nextQ_normal ?_
   refine AWp.s_reg hGn hGk [.a, .a, .m (some 15) ⟨[(14, a'1)], [], (vI ((p.Steps.length : Nat) : Int)), [], []⟩, .a, .a, .m (some 18) ⟨[(17, (vI p.Repeat))], [], (vI (p.Repeat + 1)), [], []⟩, .m (some 19) ⟨[(15, (vI ((p.Steps.length : Nat) : Int))), (18, (vI (p.Repeat + 1)))], [], (vI (((p.Steps.length : Nat) : Int) * (p.Repeat + 1))), [], []⟩, .a] ⟨StepOK.p rfl rfl rfl (OpOK.lenP (e := 103) rfl rfl (by kernel_rfl) rfl (by rw [List.length_map])),
    StepOK.p rfl rfl rfl (OpOK.add rfl rfl rfl (IntWalk.i64_in _ (by have := inB_spec ‹_›; omega))),
    StepOK.p rfl rfl rfl (OpOK.mul rfl rfl rfl (IntWalk.i64_in _ (count_in ‹_› (by omega)))), trivial⟩ [(2, (vI (((p.Steps.length : Nat) : Int) * (p.Repeat + 1))))] [] (by kernel_rfl) (by kernel_rfl) ?_
   refine AWp.ret ?_
   refine fin_of (.inr rfl) (v := (vI (((p.Steps.length : Nat) : Int) * (p.Repeat + 1)))) (Res.tmp rfl rfl) (h' := []) rfl rfl ?_
   exact ⟨by first | (simp [count, *]; done) | (simp [count, *]; omega), rfl⟩
theorem pol_offsets (p : D.Policy) (hl : p.Steps.length ≤ 1000000) :
    SpecIs Tryz.prog 87 [(.agg [(vS p.Name), (.p (.sl false 3 (p.Steps.map D.PolicyStep.cells))), (vI p.Repeat)])] [] (.p (.sl false 1 ((offsets p).map D.cInt))) [] := by
 refine Spec.intro Tryz.func87 rfl (by kernel_rfl) ?_
 intro Γ hGn hGk
 replace hGn : Γ.n = 45 := hGn
 replace hGk : Γ.names = [] := hGk
 let a'1 : AV := (.p (.sl false 3 (p.Steps.map D.PolicyStep.cells)))
 refine AWp.weaken (mk [(0, (.agg [(vS p.Name), a'1, (vI p.Repeat)]))] []) (Weak.sub' hGk (by kernel_rfl)) ?_
 let a'2 : AO := (.box [(vS p.Name), a'1, (vI p.Repeat)])
 refine AWp.s_reg hGn hGk (aa 2) (Man.aa _ _) [(1, (.ref 1001 0))] [(1001, a'2)] (by kernel_rfl) (by kernel_rfl) ?_
 refine AWp.s_reg hGn hGk [.m (some 7) ⟨[], [], (.own 1007 1), [(1007, (.arr 1 [[(pI 0)]]))], [1007]⟩, .a] ⟨StepOK.p rfl rfl rfl (OpOK.buildOwn (e := 3) (zr := [(pI 0)]) rfl (by kernel_rfl) (by kernel_rfl) (by kernel_rfl) (by kernel_rfl) rfl (by kernel_rfl) rfl rfl), trivial⟩ [(1, (.ref 1001 0)), (3, (.own 1007 1))] [(1001, a'2), (1007, (.arr 1 [[(pI 0)]]))] (by kernel_rfl) (by kernel_rfl) ?_
 refine AWp.seq ?_
 refine AWp.s_reg hGn hGk [.a, .m (some 9) ⟨[(8, (.agg [(vS p.Name), a'1, (vI p.Repeat)]))], [], (vI (count p)), [], []⟩, .a] ⟨StepOK.p rfl rfl rfl (OpOK.call rfl (by kernel_rfl) rfl (pol_Count p (by first | omega | decide)) (by kernel_rfl)), trivial⟩ [(1, (.ref 1001 0)), (3, (.own 1007 1)), (9, (vI (count p))), (10, (vI 0))] [(1001, a'2), (1007, (.arr 1 [[(pI 0)]]))] (by kernel_rfl) (by kernel_rfl) ?_
 refine AWp.block ?_
 refine AWp.loop (fun m s => ∃ k, s = (mk [(1, (.ref 1001 0)), (3, (.own 1007 (((offs p k).map D.cInt).length))), (9, (vI (count p))), (10, (vI ((k : Nat) : Int)))] [(1001, (.box [(vS p.Name), (.p (.sl false 3 (p.Steps.map D.PolicyStep.cells))), (vI p.Repeat)])), (1007, (.arr 1 ((offs p k).map D.cInt)))]) ∧ (k ≤ (count p).toNat) ∧ m = ((count p).toNat - k))
  ⟨_, 0, rfl, (by omega), rfl⟩ ?_
 rintro mm1 s ⟨k, rfl, hk, hmm1⟩
 have hcl := count_le p
 have ho := offs_len p k
 let a'3 : AV := (.own 1007 (((offs p k).map D.cInt).length))
 refine AWp.s_reg hGn hGk (aa 1) (Man.aa _ _) [(1, (.ref 1001 0)), (3, a'3), (9, (vI (count p))), (10, (vI ((k : Nat) : Int))), (11, (vB (decide (((k : Nat) : Int) < (count p)))))] [(1001, a'2), (1007, (.arr 1 ((offs p k).map D.cInt)))] (by kernel_rfl) (by kernel_rfl) ?_
 refine AWp.seq ?_
 refine AWp.cond (decide (((k : Nat) : Int) < (count p))) rfl (fun hc2 => ?_) (fun hc2 => ?_)
 ·skip
  replace hc2 := of_decide_eq_true hc2
  refine AWp.skip ?_
  refine nextQ_normal ?_
  refine AWp.seq ?_
  refine AWp.block ?_
  refine AWp.s_reg hGn hGk (aa 2) (Man.aa _ _) [(1, (.ref 1001 0)), (3, a'3), (4, (vI ((k : Nat) : Int))), (9, (vI (count p))), (10, (vI ((k : Nat) : Int)))] [(1001, a'2), (1007, (.arr 1 ((offs p k).map D.cInt)))] (by kernel_rfl) (by kernel_rfl) ?_
  have hl0 : 0 < p.Steps.length := count_pos (p := p) (k := k) (by assumption)
  have hm0 : k % p.Steps.length < p.Steps.length := Nat.mod_lt _ hl0
  let a'4 : AV := (.own 1007 (((offs p (k + 1)).map D.cInt).length))
  let a'5 : AO := (.arr 1 ((offs p (k + 1)).map D.cInt))
  refine AWp.dreg' hGn hGk (by kernel_rfl) [.a, .a, .a, .m (some 16) ⟨[(14, a'3), (15, (vI ((k : Nat) : Int)))], [(1007, (.arr 1 ((offs p k).map D.cInt)))], (.aref 1007 (((offs p k).map D.cInt).length) k 0), [], []⟩, .m (some 17) ⟨[(16, (.aref 1007 (((offs p k).map D.cInt).length) k 0))], [(1007, (.arr 1 ((offs p k).map D.cInt)))], (vI (offW p k)), [], []⟩, .a, .a, .a, .a, .a, .m (some 23) ⟨[(22, a'1)], [], (vI ((p.Steps.length : Nat) : Int)), [], []⟩, .m (some 24) ⟨[(20, (vI ((k : Nat) : Int))), (23, (vI ((p.Steps.length : Nat) : Int)))], [], (vI ((k % p.Steps.length : Nat) : Int)), [], []⟩, .m (some 25) ⟨[(19, a'1), (24, (vI ((k % p.Steps.length : Nat) : Int)))], [], (.eptr [(pI ((nth p.Steps (k % p.Steps.length)).Wait)), (pB ((nth p.Steps (k % p.Steps.length)).Urgent)), (.sl false 2 (((nth p.Steps (k % p.Steps.length)).Targets).map D.Target.cells))]), [], []⟩, .a, .a, .m (some 28) ⟨[(17, (vI (offW p k))), (27, (vI ((nth p.Steps (k % p.Steps.length)).Wait)))], [], (vI (offW p (k + 1))), [], []⟩, .a, .m (some 30) ⟨[(13, a'3), (29, (.p (.sl true 1 [[(pI (offW p (k + 1)))]])))], [(1007, (.arr 1 ((offs p k).map D.cInt)))], a'4, [(1007, a'5)], []⟩, .a] ⟨StepOK.p rfl rfl rfl (OpOK.indexOwn (e := 3) rfl (by kernel_rfl) (by kernel_rfl) rfl (Nat.beq_refl _) rfl rfl (by simp only [List.length_map]; omega)),
   StepOK.p rfl rfl rfl (OpOK.loadElem rfl rfl (by kernel_rfl) (Nat.beq_refl _) (offs_at p k) rfl),
   StepOK.p rfl rfl rfl (OpOK.lenP (e := 103) rfl rfl (by kernel_rfl) rfl (by rw [List.length_map])),
   StepOK.p rfl rfl rfl (OpOK.rem rfl rfl rfl (by omega) (Int.ofNat_tmod _ _).symm),
   StepOK.p rfl rfl rfl (OpOK.indexP (e := 103) rfl (by kernel_rfl) (by kernel_rfl) rfl rfl rfl (map_nth (by omega))),
   StepOK.p rfl rfl rfl (OpOK.add rfl rfl rfl rfl),
   StepOK.p rfl rfl rfl (OpOK.appendOwn (e := 3) (bytes := 8) rfl rfl (by kernel_rfl) (by kernel_rfl) rfl (Nat.beq_refl _) rfl (offs_snoc p k) rfl (by simp only [List.length_map, List.length_cons, List.length_nil]; omega) (by simp only [List.length_map, List.length_cons, List.length_nil]; omega)), trivial⟩ [(1, (.ref 1001 0)), (3, a'4), (9, (vI (count p))), (10, (vI ((k : Nat) : Int)))] [(1001, a'2), (1007, a'5)] (by kernel_rfl) (by kernel_rfl) (by kernel_rfl) ?_
  refine blockQ_normal ?_
  refine nextQ_normal ?_
  refine AWp.reg' hGn hGk [.m (some 31) ⟨[(10, (vI ((k : Nat) : Int)))], [], (vI ((k + 1 : Nat) : Int)), [], []⟩, .a] ⟨StepOK.p rfl rfl rfl (OpOK.add rfl rfl rfl (by rw [IntWalk.i64_in _ ⟨by omega, by omega⟩]; omega)), trivial⟩ [(1, (.ref 1001 0)), (3, a'4), (9, (vI (count p))), (10, (vI ((k + 1 : Nat) : Int)))] [(1001, a'2), (1007, a'5)] (by kernel_rfl) (by kernel_rfl) ?_
  refine nextQ_normal ⟨_, ?_, (k + 1), rfl, (by omega), rfl⟩
  · omega
 ·skip
  replace hc2 := of_decide_eq_false hc2
  refine AWp.weaken (mk [(1, (.ref 1001 0)), (3, a'3)] [(1001, a'2), (1007, (.arr 1 ((offs p k).map D.cInt)))]) (Weak.sub' hGk (by kernel_rfl)) ?_
  refine AWp.exit ?_
  refine nextQ_exit ?_
  refine nextQ_exit ?_
  refine blockQ_exit ?_
  refine nextQ_normal ?_
  refine AWp.seq ?_
  refine AWp.s_reg hGn hGk [.a, .a, .m (some 34) ⟨[(33, a'1)], [], (vI ((p.Steps.length : Nat) : Int)), [], []⟩, .a] ⟨StepOK.p rfl rfl rfl (OpOK.lenP (e := 103) rfl rfl (by kernel_rfl) rfl (by rw [List.length_map])), trivial⟩ [(3, a'3), (33, a'1), (34, (vI ((p.Steps.length : Nat) : Int))), (35, (vI 0))] [(1007, (.arr 1 ((offs p k).map D.cInt)))] (by kernel_rfl) (by kernel_rfl) ?_
  refine AWp.block ?_
  refine AWp.loop (fun m s => ∃ i, s = (mk [(3, (.own 1007 (((offs p k).map D.cInt).length))), (33, (.p (.sl false 3 (p.Steps.map D.PolicyStep.cells)))), (34, (vI ((p.Steps.length : Nat) : Int))), (35, (vI ((i : Nat) : Int)))] [(1007, (.arr 1 ((offs p k).map D.cInt)))]) ∧ (i ≤ p.Steps.length) ∧ (∀ j, j < i → inB (nth p.Steps j).Wait 0 86400 = true) ∧ m = (p.Steps.length - i))
   ⟨_, 0, rfl, (by omega), (by intro j hj; omega), rfl⟩ ?_
  rintro mm3 s ⟨i, rfl, hi, hw, hmm3⟩
  refine AWp.s_reg hGn hGk (aa 1) (Man.aa _ _) [(3, a'3), (33, a'1), (34, (vI ((p.Steps.length : Nat) : Int))), (35, (vI ((i : Nat) : Int))), (36, (vB (decide (((i : Nat) : Int) < ((p.Steps.length : Nat) : Int)))))] [(1007, (.arr 1 ((offs p k).map D.cInt)))] (by kernel_rfl) (by kernel_rfl) ?_
  refine AWp.seq ?_
  refine AWp.cond (decide (((i : Nat) : Int) < ((p.Steps.length : Nat) : Int))) rfl (fun hc4 => ?_) (fun hc4 => ?_)
  ·skip
   replace hc4 := of_decide_eq_true hc4
   refine AWp.skip ?_
   refine nextQ_normal ?_
   refine AWp.seq ?_
   refine AWp.block ?_
   refine AWp.s_reg hGn hGk [.m (some 37) ⟨[(33, a'1), (35, (vI ((i : Nat) : Int)))], [], (.eptr [(pI ((nth p.Steps i).Wait)), (pB ((nth p.Steps i).Urgent)), (.sl false 2 (((nth p.Steps i).Targets).map D.Target.cells))]), [], []⟩, .a, .a, .a] ⟨StepOK.p rfl rfl rfl (OpOK.indexP (e := 103) rfl (by kernel_rfl) (by kernel_rfl) rfl rfl rfl (map_nth (by omega))), trivial⟩ [(3, a'3), (6, (.ref 1006 0)), (33, a'1), (34, (vI ((p.Steps.length : Nat) : Int))), (35, (vI ((i : Nat) : Int)))] [(1007, (.arr 1 ((offs p k).map D.cInt))), (1006, (.box [(vI ((nth p.Steps i).Wait)), (vB ((nth p.Steps i).Urgent)), (.p (.sl false 2 (((nth p.Steps i).Targets).map D.Target.cells)))]))] (by kernel_rfl) (by kernel_rfl) ?_
   refine AWp.s_reg hGn hGk [.a, .a, .m (some 41) ⟨[(40, (vI ((nth p.Steps i).Wait)))], [], (vB (inB ((nth p.Steps i).Wait) 0 86400)), [], []⟩, .a] ⟨StepOK.p rfl rfl rfl (OpOK.call rfl (by kernel_rfl) rfl (pol_in ((nth p.Steps i).Wait) 0 86400) (by kernel_rfl)), trivial⟩ [(3, a'3), (33, a'1), (34, (vI ((p.Steps.length : Nat) : Int))), (35, (vI ((i : Nat) : Int))), (42, (vB (!(inB ((nth p.Steps i).Wait) 0 86400))))] [(1007, (.arr 1 ((offs p k).map D.cInt)))] (by kernel_rfl) (by kernel_rfl) ?_
   refine AWp.cond (!(inB ((nth p.Steps i).Wait) 0 86400)) rfl (fun hc5 => ?_) (fun hc5 => ?_)
   ·skip
    replace hc5 : inB ((nth p.Steps i).Wait) 0 86400 = false := by simpa using hc5
    have ha6 := inB_false hc5
    refine AWp.s_reg hGn hGk (aa 1) (Man.aa _ _) [(2, (.p (.sl true 0 [])))] [] (by kernel_rfl) (by kernel_rfl) ?_
    refine AWp.weaken (mk [(2, (.p (.sl false 1 [])))] []) (Weak.le ⟨rfl, (.p (PVle.nil (by simp))), trivial⟩ trivial) ?_
    refine AWp.ret ?_
    refine blockQ_ret ?_
    refine nextQ_ret ?_
    refine nextQ_ret ?_
    refine blockQ_ret ?_
    refine nextQ_ret ?_
    refine fin_of (.inr rfl) (v := (.p (.sl false 1 []))) (Res.tmp rfl rfl) (h' := []) rfl rfl ?_
    exact ⟨by rw [offsets_no p i (by omega) (by assumption)]; rfl, rfl⟩
   ·skip
    replace hc5 : inB ((nth p.Steps i).Wait) 0 86400 = true := by simpa using hc5
    have ha7 := inB_spec hc5
    refine AWp.skip ?_
    refine blockQ_normal ?_
    refine nextQ_normal ?_
    refine AWp.reg' hGn hGk [.m (some 43) ⟨[(35, (vI ((i : Nat) : Int)))], [], (vI ((i + 1 : Nat) : Int)), [], []⟩, .a] ⟨StepOK.p rfl rfl rfl (OpOK.add rfl rfl rfl (by rw [IntWalk.i64_in _ ⟨by omega, by omega⟩]; omega)), trivial⟩ [(3, a'3), (33, a'1), (34, (vI ((p.Steps.length : Nat) : Int))), (35, (vI ((i + 1 : Nat) : Int)))] [(1007, (.arr 1 ((offs p k).map D.cInt)))] (by kernel_rfl) (by kernel_rfl) ?_
    refine nextQ_normal ⟨_, ?_, (i + 1), rfl, (by omega), (fun j hj => by rcases Nat.lt_or_ge j i with h | h; exact hw j h; rw [show j = i from by omega]; assumption), rfl⟩
    · omega
  ·skip
   replace hc4 := of_decide_eq_false hc4
   refine AWp.weaken (mk [(3, a'3)] [(1007, (.arr 1 ((offs p k).map D.cInt)))]) (Weak.sub' hGk (by kernel_rfl)) ?_
   refine AWp.exit ?_
   refine nextQ_exit ?_
   refine nextQ_exit ?_
   refine blockQ_exit ?_
   refine nextQ_normal ?_
   refine AWp.s_reg hGn hGk (aa 2) (Man.aa _ _) [(2, a'3)] [(1007, (.arr 1 ((offs p k).map D.cInt)))] (by kernel_rfl) (by kernel_rfl) ?_
   refine AWp.weaken (mk [(2, (.p (.sl false 1 ((offs p k).map D.cInt))))] []) (Weak.freeze (n := 1007) (es := 1) (rows := ((offs p k).map D.cInt)) (by rw [hGk]; decide) ⟨rfl, .own, trivial⟩ trivial) ?_
   refine AWp.ret ?_
   refine fin_of (.inr rfl) (v := (.p (.sl false 1 ((offs p k).map D.cInt)))) (Res.tmp rfl rfl) (h' := []) rfl rfl ?_
   exact ⟨by rw [offsets_ok p (fun j hj => hw j (by omega)), show (count p).toNat = k from by omega], rfl⟩
theorem pol_Offset (p : D.Policy) (k : Int) (hl : p.Steps.length ≤ 1000000) :
    SpecIs Tryz.prog 53 [(.agg [(vS p.Name), (.p (.sl false 3 (p.Steps.map D.PolicyStep.cells))), (vI p.Repeat)]), (vI k)] [] (.tup [(vI ((offset p k).1)), (vB ((offset p k).2))]) [] := by
 refine Spec.intro Tryz.func53 rfl (by kernel_rfl) ?_
 intro Γ hGn hGk
 replace hGn : Γ.n = 19 := hGn
 replace hGk : Γ.names = [] := hGk
 have hol := offsets_len_le p
 let a'1 : AV := (.p (.sl false 3 (p.Steps.map D.PolicyStep.cells)))
 refine AWp.weaken (mk [(0, (.agg [(vS p.Name), a'1, (vI p.Repeat)])), (1, (vI k))] []) (Weak.sub' hGk (by kernel_rfl)) ?_
 refine AWp.s_reg hGn hGk (aa 3) (Man.aa _ _) [(1, (vI k)), (2, (.ref 1002 0))] [(1002, (.box [(vS p.Name), a'1, (vI p.Repeat)]))] (by kernel_rfl) (by kernel_rfl) ?_
 let a'2 : AV := (.p (.sl false 1 ((offsets p).map D.cInt)))
 refine AWp.s_reg hGn hGk [.a, .m (some 8) ⟨[(7, (.agg [(vS p.Name), a'1, (vI p.Repeat)]))], [], a'2, [], []⟩, .a] ⟨StepOK.p rfl rfl rfl (OpOK.call rfl (by kernel_rfl) rfl (pol_offsets p (by omega)) (by kernel_rfl)), trivial⟩ [(1, (vI k)), (6, a'2)] [] (by kernel_rfl) (by kernel_rfl) ?_
 refine AWp.seq ?_
 refine AWp.s_reg hGn hGk [.a, .a, .m (some 11) ⟨[(10, a'2)], [], (vI (((offsets p).length : Nat) : Int)), [], []⟩, .m (some 12) ⟨[(11, (vI (((offsets p).length : Nat) : Int)))], [], (vI ((((offsets p).length : Nat) : Int) - 1)), [], []⟩, .m (some 13) ⟨[(9, (vI k)), (12, (vI ((((offsets p).length : Nat) : Int) - 1)))], [], (vB (inB k 0 ((((offsets p).length : Nat) : Int) - 1))), [], []⟩, .a] ⟨StepOK.p rfl rfl rfl (OpOK.lenP (e := 3) rfl rfl (by kernel_rfl) rfl (by rw [List.length_map])),
  StepOK.p rfl rfl rfl (OpOK.sub rfl rfl rfl (IntWalk.i64_in _ ⟨by omega, by omega⟩)),
  StepOK.p rfl rfl rfl (OpOK.call rfl (by kernel_rfl) rfl (pol_in k 0 ((((offsets p).length : Nat) : Int) - 1)) (by kernel_rfl)), trivial⟩ [(1, (vI k)), (6, a'2), (14, (vB (!(inB k 0 ((((offsets p).length : Nat) : Int) - 1)))))] [] (by kernel_rfl) (by kernel_rfl) ?_
 refine AWp.cond (!(inB k 0 ((((offsets p).length : Nat) : Int) - 1))) rfl (fun hc1 => ?_) (fun hc1 => ?_)
 ·skip
  replace hc1 : inB k 0 ((((offsets p).length : Nat) : Int) - 1) = false := by simpa using hc1
  have ha2 := inB_false hc1
  refine AWp.s_reg hGn hGk (aa 2) (Man.aa _ _) [(4, (vI 0)), (5, (vB false))] [] (by kernel_rfl) (by kernel_rfl) ?_
  refine AWp.ret ?_
  refine nextQ_ret ?_
  refine fin_of (.inr rfl) (v := (.tup [(vI 0), (vB false)])) (Res.many (by kernel_rfl) (Res1s.cons (Res1.tmp rfl) (Res1s.cons (Res1.tmp rfl) Res1s.nil))) (h' := []) rfl rfl ?_
  exact ⟨by simp [offset, *], rfl⟩
 ·skip
  replace hc1 : inB k 0 ((((offsets p).length : Nat) : Int) - 1) = true := by simpa using hc1
  have ha3 := inB_spec hc1
  refine AWp.skip ?_
  refine nextQ_normal ?_
  refine AWp.s_reg hGn hGk [.a, .a, .m (some 17) ⟨[(15, a'2), (16, (vI k))], [], (.eptr [(pI (nth (offsets p) ((k).toNat)))]), [], []⟩, .a, .a, .a] ⟨StepOK.p rfl rfl rfl (OpOK.indexP (e := 3) rfl (by kernel_rfl) (by kernel_rfl) rfl rfl (by omega) (map_nth (by omega))), trivial⟩ [(4, (vI (nth (offsets p) ((k).toNat)))), (5, (vB true))] [] (by kernel_rfl) (by kernel_rfl) ?_
  refine AWp.ret ?_
  refine fin_of (.inr rfl) (v := (.tup [(vI (nth (offsets p) ((k).toNat))), (vB true)])) (Res.many (by kernel_rfl) (Res1s.cons (Res1.tmp rfl) (Res1s.cons (Res1.tmp rfl) Res1s.nil))) (h' := []) rfl rfl ?_
  exact ⟨by simp [offset, *], rfl⟩
theorem pol_End (p : D.Policy) (hl : p.Steps.length ≤ 1000000) :
    SpecIs Tryz.prog 54 [(.agg [(vS p.Name), (.p (.sl false 3 (p.Steps.map D.PolicyStep.cells))), (vI p.Repeat)])] [] (vI ((offset p (count p)).1)) [] := by
 refine Spec.intro Tryz.func54 rfl (by kernel_rfl) ?_
 intro Γ hGn hGk
 replace hGn : Γ.n = 13 := hGn
 replace hGk : Γ.names = [] := hGk
 let a'1 : AV := (.p (.sl false 3 (p.Steps.map D.PolicyStep.cells)))
 let a'2 : AV := (.agg [(vS p.Name), a'1, (vI p.Repeat)])
 refine AWp.weaken (mk [(0, a'2)] []) (Weak.sub' hGk (by kernel_rfl)) ?_
 refine AWp.s_reg hGn hGk (aa 2) (Man.aa _ _) [(1, (.ref 1001 0))] [(1001, (.box [(vS p.Name), a'1, (vI p.Repeat)]))] (by kernel_rfl) (by kernel_rfl) ?_
 refine AWp.s_dreg hGn hGk (by kernel_rfl) [.a, .a, .m (some 8) ⟨[(7, a'2)], [], (vI (count p)), [], []⟩, .m (some 9) ⟨[(6, a'2), (8, (vI (count p)))], [], (.tup [(vI ((offset p (count p)).1)), (vB ((offset p (count p)).2))]), [], []⟩, .a, .a, .a, .a, .a] ⟨StepOK.p rfl rfl rfl (OpOK.call rfl (by kernel_rfl) rfl (pol_Count p (by first | omega | decide)) (by kernel_rfl)),
  StepOK.p rfl rfl rfl (OpOK.call rfl (by kernel_rfl) rfl (pol_Offset p (count p) (by first | omega | decide)) (by kernel_rfl)), trivial⟩ [(3, (vI ((offset p (count p)).1)))] [] (by kernel_rfl) (by kernel_rfl) (by kernel_rfl) ?_
 refine AWp.s_reg hGn hGk (aa 2) (Man.aa _ _) [(2, (vI ((offset p (count p)).1)))] [] (by kernel_rfl) (by kernel_rfl) ?_
 refine AWp.ret ?_
 refine fin_of (.inr rfl) (v := (vI ((offset p (count p)).1))) (Res.tmp rfl rfl) (h' := []) rfl rfl ?_
 exact ⟨rfl, rfl⟩
theorem pol_Started (p : D.Policy) (o : Int) (hl : p.Steps.length ≤ 1000000) :
    SpecIs Tryz.prog 55 [(.agg [(vS p.Name), (.p (.sl false 3 (p.Steps.map D.PolicyStep.cells))), (vI p.Repeat)]), (vI o)] [] (vI ((started p o : Nat) : Int)) [] := by
 refine Spec.intro Tryz.func55 rfl (by kernel_rfl) ?_
 intro Γ hGn hGk
 replace hGn : Γ.n = 28 := hGn
 replace hGk : Γ.names = [] := hGk
 have hol := offsets_len_le p
 let a'1 : AV := (.p (.sl false 3 (p.Steps.map D.PolicyStep.cells)))
 refine AWp.weaken (mk [(0, (.agg [(vS p.Name), a'1, (vI p.Repeat)])), (1, (vI o))] []) (Weak.sub' hGk (by kernel_rfl)) ?_
 refine AWp.s_reg hGn hGk (aa 2) (Man.aa _ _) [(1, (vI o)), (2, (.ref 1002 0))] [(1002, (.box [(vS p.Name), a'1, (vI p.Repeat)]))] (by kernel_rfl) (by kernel_rfl) ?_
 let a'2 : AV := (.p (.sl false 1 ((offsets p).map D.cInt)))
 refine AWp.s_reg hGn hGk [.a, .m (some 9) ⟨[(8, (.agg [(vS p.Name), a'1, (vI p.Repeat)]))], [], a'2, [], []⟩, .a] ⟨StepOK.p rfl rfl rfl (OpOK.call rfl (by kernel_rfl) rfl (pol_offsets p (by omega)) (by kernel_rfl)), trivial⟩ [(1, (vI o)), (5, a'2)] [] (by kernel_rfl) (by kernel_rfl) ?_
 refine AWp.s_reg hGn hGk (aa 1) (Man.aa _ _) [(1, (vI o)), (5, a'2), (6, (vI 0))] [] (by kernel_rfl) (by kernel_rfl) ?_
 refine AWp.seq ?_
 refine AWp.s_reg hGn hGk (aa 1) (Man.aa _ _) [(1, (vI o)), (5, a'2), (6, (vI 0)), (7, (vI 0))] [] (by kernel_rfl) (by kernel_rfl) ?_
 refine AWp.block ?_
 refine AWp.loop (fun m s => ∃ j, s = (mk [(1, (vI o)), (5, (.p (.sl false 1 ((offsets p).map D.cInt)))), (6, (vI ((j : Nat) : Int))), (7, (vI ((j : Nat) : Int)))] []) ∧ (j + 1 ≤ (offsets p).length ∨ j = 0) ∧ (∀ i, i < j → nth (offsets p) i ≤ o) ∧ m = ((offsets p).length - j))
  ⟨_, 0, rfl, (by omega), (by intro i hi; omega), rfl⟩ ?_
 rintro mm1 s ⟨j, rfl, hj, hw, hmm1⟩
 refine AWp.seq ?_
 by_cases hs2 : ((j + 1 : Nat) : Int) < (((offsets p).length : Nat) : Int)
 ·skip
  refine AWp.s_reg hGn hGk [.a, .m (some 11) ⟨[(10, (vI ((j : Nat) : Int)))], [], (vI ((j + 1 : Nat) : Int)), [], []⟩, .a, .m (some 13) ⟨[(12, a'2)], [], (vI (((offsets p).length : Nat) : Int)), [], []⟩, .m (some 14) ⟨[(11, (vI ((j + 1 : Nat) : Int))), (13, (vI (((offsets p).length : Nat) : Int)))], [], (vB true), [], []⟩, .a, .a, .a, .m (some 18) ⟨[(16, a'2), (17, (vI ((j : Nat) : Int))), (15, (vB true))], [], (.eptr [(pI (nth (offsets p) j))]), [], []⟩, .a, .a, .a, .a] ⟨StepOK.p rfl rfl rfl (OpOK.add rfl rfl rfl (by rw [IntWalk.i64_in _ ⟨by omega, by omega⟩]; omega)),
   StepOK.p rfl rfl rfl (OpOK.lenP (e := 3) rfl rfl (by kernel_rfl) rfl (by rw [List.length_map])),
   StepOK.p rfl rfl rfl (OpOK.lss rfl rfl rfl (decide_eq_true hs2)),
   StepOK.g rfl rfl rfl rfl rfl (by simp) (OpOK.indexP (e := 3) rfl (by kernel_rfl) (by kernel_rfl) rfl rfl rfl (map_nth (by omega))), trivial⟩ [(1, (vI o)), (5, a'2), (6, (vI ((j : Nat) : Int))), (7, (vI ((j : Nat) : Int))), (22, (vB (decide ((nth (offsets p) j) ≤ o))))] [] (by kernel_rfl) (by kernel_rfl) ?_
  refine AWp.cond (decide ((nth (offsets p) j) ≤ o)) rfl (fun hc3 => ?_) (fun hc3 => ?_)
  ·skip
   replace hc3 := of_decide_eq_true hc3
   refine AWp.skip ?_
   refine nextQ_normal ?_
   refine AWp.seq ?_
   refine AWp.block ?_
   refine AWp.reg' hGn hGk [.a, .m (some 26) ⟨[(25, (vI ((j : Nat) : Int)))], [], (vI ((j + 1 : Nat) : Int)), [], []⟩, .a] ⟨StepOK.p rfl rfl rfl (OpOK.add rfl rfl rfl (by rw [IntWalk.i64_in _ ⟨by omega, by omega⟩]; omega)), trivial⟩ [(1, (vI o)), (5, a'2), (6, (vI ((j + 1 : Nat) : Int))), (7, (vI ((j : Nat) : Int)))] [] (by kernel_rfl) (by kernel_rfl) ?_
   refine blockQ_normal ?_
   refine nextQ_normal ?_
   refine AWp.reg' hGn hGk [.a, .m (some 24) ⟨[(23, (vI ((j : Nat) : Int)))], [], (vI ((j + 1 : Nat) : Int)), [], []⟩, .a] ⟨StepOK.p rfl rfl rfl (OpOK.add rfl rfl rfl (by rw [IntWalk.i64_in _ ⟨by omega, by omega⟩]; omega)), trivial⟩ [(1, (vI o)), (5, a'2), (6, (vI ((j + 1 : Nat) : Int))), (7, (vI ((j + 1 : Nat) : Int)))] [] (by kernel_rfl) (by kernel_rfl) ?_
   refine nextQ_normal ⟨_, ?_, (j + 1), rfl, (.inl (by omega)), (fun i hi => by rcases Nat.lt_or_ge i j with h | h; exact hw i h; rw [show i = j from by omega]; assumption), rfl⟩
   · omega
  ·skip
   replace hc3 := of_decide_eq_false hc3
   refine AWp.weaken (mk [(6, (vI ((j : Nat) : Int)))] []) (Weak.sub' hGk (by kernel_rfl)) ?_
   refine AWp.exit ?_
   refine nextQ_exit ?_
   refine nextQ_exit ?_
   refine blockQ_exit ?_
   refine nextQ_normal ?_
   refine AWp.s_reg hGn hGk (aa 2) (Man.aa _ _) [(4, (vI ((j : Nat) : Int)))] [] (by kernel_rfl) (by kernel_rfl) ?_
   refine AWp.ret ?_
   refine fin_of (.inr rfl) (v := (vI ((j : Nat) : Int))) (Res.tmp rfl rfl) (h' := []) rfl rfl ?_
   exact ⟨by rw [started_eq hj hw (by first | (left; omega) | (right; assumption))], rfl⟩
 ·skip
  refine AWp.s_reg hGn hGk [.a, .m (some 11) ⟨[(10, (vI ((j : Nat) : Int)))], [], (vI ((j + 1 : Nat) : Int)), [], []⟩, .a, .m (some 13) ⟨[(12, a'2)], [], (vI (((offsets p).length : Nat) : Int)), [], []⟩, .m (some 14) ⟨[(11, (vI ((j + 1 : Nat) : Int))), (13, (vI (((offsets p).length : Nat) : Int)))], [], (vB false), [], []⟩, .a, .a, .a, .a, .a, .a, .a, .a] ⟨StepOK.p rfl rfl rfl (OpOK.add rfl rfl rfl (by rw [IntWalk.i64_in _ ⟨by omega, by omega⟩]; omega)),
   StepOK.p rfl rfl rfl (OpOK.lenP (e := 3) rfl rfl (by kernel_rfl) rfl (by rw [List.length_map])),
   StepOK.p rfl rfl rfl (OpOK.lss rfl rfl rfl (decide_eq_false hs2)), trivial⟩ [(1, (vI o)), (5, a'2), (6, (vI ((j : Nat) : Int))), (7, (vI ((j : Nat) : Int))), (22, (vB false))] [] (by kernel_rfl) (by kernel_rfl) ?_
  refine AWp.cond_false rfl ?_
  refine AWp.weaken (mk [(6, (vI ((j : Nat) : Int)))] []) (Weak.sub' hGk (by kernel_rfl)) ?_
  refine AWp.exit ?_
  refine nextQ_exit ?_
  refine nextQ_exit ?_
  refine blockQ_exit ?_
  refine nextQ_normal ?_
  refine AWp.s_reg hGn hGk (aa 2) (Man.aa _ _) [(4, (vI ((j : Nat) : Int)))] [] (by kernel_rfl) (by kernel_rfl) ?_
  refine AWp.ret ?_
  refine fin_of (.inr rfl) (v := (vI ((j : Nat) : Int))) (Res.tmp rfl rfl) (h' := []) rfl rfl ?_
  exact ⟨by rw [started_eq hj hw (by first | (left; omega) | (right; assumption))], rfl⟩
theorem made_Light (L : List Int) :
    SpecIs Tryz.prog 9 [(.p (.sl false 1 (L.map D.cInt)))] [] (vB (decide (((L.length : Nat) : Int) ≤ (500 : Int)))) [] := by
 refine Spec.intro Tryz.func9 rfl (by kernel_rfl) ?_
 intro Γ hGn hGk
 replace hGn : Γ.n = 6 := hGn
 replace hGk : Γ.names = [] := hGk
 refine AWp.weaken (mk [(0, (.p (.sl false 1 (L.map D.cInt))))] []) (Weak.sub' hGk (by kernel_rfl)) ?_
 refine AWp.s_reg hGn hGk (aa 1) (Man.aa _ _) [(0, (.p (.sl false 1 (L.map D.cInt))))] [] (by kernel_rfl) (by kernel_rfl) ?_
 refine AWp.s_reg hGn hGk [.a, .m (some 4) ⟨[(3, (.p (.sl false 1 (L.map D.cInt))))], [], (vI ((L.length : Nat) : Int)), [], []⟩, .a, .a] ⟨StepOK.p rfl rfl rfl (OpOK.lenP (e := 3) rfl rfl (by kernel_rfl) rfl (by rw [List.length_map])), trivial⟩ [(2, (vB (decide (((L.length : Nat) : Int) ≤ (500 : Int)))))] [] (by kernel_rfl) (by kernel_rfl) ?_
 refine AWp.ret ?_
 refine fin_of (.inr rfl) (v := (vB (decide (((L.length : Nat) : Int) ≤ (500 : Int))))) (Res.tmp rfl rfl) (h' := []) rfl rfl ?_
 exact ⟨rfl, rfl⟩
theorem made_Roll (L : List Int) :
    SpecIs Tryz.prog 11 [(.p (.sl false 1 (L.map D.cInt)))] [] (.ref 1 0) [(1, (.box [(.p (.sl false 1 (L.map D.cInt))), (vI 0)]))] := by
 refine Spec.intro Tryz.func11 rfl (by kernel_rfl) ?_
 intro Γ hGn hGk
 replace hGn : Γ.n = 6 := hGn
 replace hGk : Γ.names = [] := hGk
 refine AWp.weaken (mk [(0, (.p (.sl false 1 (L.map D.cInt))))] []) (Weak.sub' hGk (by kernel_rfl)) ?_
 refine AWp.s_reg hGn hGk (aa 1) (Man.aa _ _) [(0, (.p (.sl false 1 (L.map D.cInt))))] [] (by kernel_rfl) (by kernel_rfl) ?_
 refine AWp.s_reg hGn hGk [.a, .a, .m (some 5) ⟨[(4, (.agg [(.p (.sl false 1 (L.map D.cInt))), (vI 0)]))], [], (.ref 1 0), [(1, (.box [(.p (.sl false 1 (L.map D.cInt))), (vI 0)]))], [1]⟩, .a] ⟨StepOK.p rfl rfl rfl (OpOK.box rfl rfl rfl), trivial⟩ [(2, (.ref 1 0))] [(1, (.box [(.p (.sl false 1 (L.map D.cInt))), (vI 0)]))] (by kernel_rfl) (by kernel_rfl) ?_
 refine AWp.ret ?_
 refine fin_of (.inr rfl) (v := (.ref 1 0)) (Res.tmp rfl rfl) (h' := [(1, (.box [(.p (.sl false 1 (L.map D.cInt))), (vI 0)]))]) rfl rfl ?_
 exact ⟨rfl, rfl⟩
theorem made_Next (L : List Int) (i : Nat) (n : Int) (hL : L.length ≤ 500) (hi : i ≤ L.length) (hn : n ≤ 9223372036854775807) :
    SpecIs Tryz.prog 13 [(.ref 1 0), (vI n)] [(1, (.box [(.p (.sl false 1 (L.map D.cInt))), (vI ((i : Nat) : Int))]))] (vI ((nextN L i n : Nat) : Int)) [(1, (.box [(.p (.sl false 1 (L.map D.cInt))), (vI ((nextI L i n : Nat) : Int))]))] := by
 refine Spec.intro Tryz.func13 rfl (by kernel_rfl) ?_
 intro Γ hGn hGk
 replace hGn : Γ.n = 45 := hGn
 replace hGk : Γ.names = [1] := hGk
 let a'1 : AO := (.box [(.p (.sl false 1 (L.map D.cInt))), (vI ((i : Nat) : Int))])
 refine AWp.weaken (mk [(0, (.ref 1 0)), (1, (vI n))] [(1, a'1)]) (Weak.sub' hGk (by kernel_rfl)) ?_
 refine AWp.s_reg hGn hGk (aa 1) (Man.aa _ _) [(0, (.ref 1 0)), (1, (vI n))] [(1, a'1)] (by kernel_rfl) (by kernel_rfl) ?_
 refine AWp.seq ?_
 by_cases hs1 : ((L.length : Nat) : Int) ≤ ((i : Nat) : Int)
 ·skip
  refine AWp.s_dreg hGn hGk (by kernel_rfl) [.a, .a, .a, .a, .a, .a, .a, .a, .m (some 14) ⟨[(13, (.p (.sl false 1 (L.map D.cInt))))], [], (vI ((L.length : Nat) : Int)), [], []⟩, .m (some 15) ⟨[(9, (vI ((i : Nat) : Int))), (14, (vI ((L.length : Nat) : Int)))], [], (vB true), [], []⟩, .a, .a, .a, .a] ⟨StepOK.p rfl rfl rfl (OpOK.lenP (e := 3) rfl rfl (by kernel_rfl) rfl (by rw [List.length_map])),
   StepOK.p rfl rfl rfl (OpOK.geq rfl rfl rfl (decide_eq_true hs1)), trivial⟩ [(0, (.ref 1 0)), (1, (vI n)), (19, (vB true))] [(1, a'1)] (by kernel_rfl) (by kernel_rfl) (by kernel_rfl) ?_
  refine AWp.cond_true rfl ?_
  refine AWp.s_reg hGn hGk (aa 1) (Man.aa _ _) [(4, (vI 0))] [(1, a'1)] (by kernel_rfl) (by kernel_rfl) ?_
  refine AWp.ret ?_
  refine nextQ_ret ?_
  refine fin_of (.inr rfl) (v := (vI 0)) (Res.tmp rfl rfl) (h' := [(1, (.box [(.p (.sl false 1 (L.map D.cInt))), (vI ((i : Nat) : Int))]))]) rfl rfl ?_
  exact ⟨by rw [nextN_cast, (next_end (L := L) (i := i) (n := n) (by omega)).1], by rw [(next_end (L := L) (i := i) (n := n) (by omega)).2]⟩
 ·skip
  refine AWp.s_dreg hGn hGk (by kernel_rfl) [.a, .a, .a, .a, .a, .a, .a, .a, .m (some 14) ⟨[(13, (.p (.sl false 1 (L.map D.cInt))))], [], (vI ((L.length : Nat) : Int)), [], []⟩, .m (some 15) ⟨[(9, (vI ((i : Nat) : Int))), (14, (vI ((L.length : Nat) : Int)))], [], (vB false), [], []⟩, .a, .a, .a, .a] ⟨StepOK.p rfl rfl rfl (OpOK.lenP (e := 3) rfl rfl (by kernel_rfl) rfl (by rw [List.length_map])),
   StepOK.p rfl rfl rfl (OpOK.geq rfl rfl rfl (decide_eq_false hs1)), trivial⟩ [(0, (.ref 1 0)), (1, (vI n)), (19, (vB (decide (n < (1 : Int)))))] [(1, a'1)] (by kernel_rfl) (by kernel_rfl) (by kernel_rfl) ?_
  refine AWp.cond (decide (n < (1 : Int))) rfl (fun hc2 => ?_) (fun hc2 => ?_)
  ·skip
   replace hc2 := of_decide_eq_true hc2
   refine AWp.s_reg hGn hGk (aa 1) (Man.aa _ _) [(4, (vI 0))] [(1, a'1)] (by kernel_rfl) (by kernel_rfl) ?_
   refine AWp.ret ?_
   refine nextQ_ret ?_
   refine fin_of (.inr rfl) (v := (vI 0)) (Res.tmp rfl rfl) (h' := [(1, (.box [(.p (.sl false 1 (L.map D.cInt))), (vI ((i : Nat) : Int))]))]) rfl rfl ?_
   exact ⟨by rw [nextN_cast, (next_end (L := L) (i := i) (n := n) (by omega)).1], by rw [(next_end (L := L) (i := i) (n := n) (by omega)).2]⟩
  ·skip
   replace hc2 := of_decide_eq_false hc2
   refine AWp.skip ?_
   refine nextQ_normal ?_
   refine AWp.s_dreg hGn hGk (by kernel_rfl) [.a, .a, .a, .a, .a, .a, .a, .a, .m (some 28) ⟨[(23, (.p (.sl false 1 (L.map D.cInt)))), (27, (vI ((i : Nat) : Int)))], [], (.eptr [(pI (nth L i))]), [], []⟩, .a, .a, .m (some 31) ⟨[(29, (vI (nth L i))), (30, (vI n))], [], (vI ((nth L i).tmod n)), [], []⟩, .a] ⟨StepOK.p rfl rfl rfl (OpOK.indexP (e := 3) rfl (by kernel_rfl) (by kernel_rfl) rfl rfl rfl (map_nth (by omega))),
    StepOK.p rfl rfl rfl (OpOK.rem rfl rfl rfl (by omega) rfl), trivial⟩ [(0, (.ref 1 0)), (1, (vI n)), (5, (vI ((nth L i).tmod n)))] [(1, a'1)] (by kernel_rfl) (by kernel_rfl) (by kernel_rfl) ?_
   let a'2 : AO := (.box [(.p (.sl false 1 (L.map D.cInt))), (vI ((i + 1 : Nat) : Int))])
   refine AWp.s_reg hGn hGk [.a, .a, .a, .a, .m (some 36) ⟨[(35, (vI ((i : Nat) : Int)))], [], (vI ((i + 1 : Nat) : Int)), [], []⟩, .a, .a, .a] ⟨StepOK.p rfl rfl rfl (OpOK.add rfl rfl rfl (by rw [IntWalk.i64_in _ ⟨by omega, by omega⟩]; omega)), trivial⟩ [(1, (vI n)), (5, (vI ((nth L i).tmod n)))] [(1, a'2)] (by kernel_rfl) (by kernel_rfl) ?_
   refine AWp.seq ?_
   refine AWp.s_reg hGn hGk (aa 2) (Man.aa _ _) [(1, (vI n)), (5, (vI ((nth L i).tmod n))), (40, (vB (decide (((nth L i).tmod n) < (0 : Int)))))] [(1, a'2)] (by kernel_rfl) (by kernel_rfl) ?_
   refine AWp.cond (decide (((nth L i).tmod n) < (0 : Int))) rfl (fun hc3 => ?_) (fun hc3 => ?_)
   ·skip
    replace hc3 := of_decide_eq_true hc3
    refine AWp.reg' hGn hGk [.a, .a, .m (some 43) ⟨[(41, (vI ((nth L i).tmod n))), (42, (vI n))], [], (vI ((nth L i).tmod n + n)), [], []⟩, .a] ⟨StepOK.p rfl rfl rfl (OpOK.add rfl rfl rfl (IntWalk.i64_in _ (by have := tmod_in (a := nth L i) (n := n) (by omega); omega))), trivial⟩ [(5, (vI ((nth L i).tmod n + n)))] [(1, a'2)] (by kernel_rfl) (by kernel_rfl) ?_
    refine nextQ_normal ?_
    refine AWp.s_reg hGn hGk (aa 2) (Man.aa _ _) [(4, (vI ((nth L i).tmod n + n)))] [(1, a'2)] (by kernel_rfl) (by kernel_rfl) ?_
    refine AWp.ret ?_
    refine fin_of (.inr rfl) (v := (vI ((nth L i).tmod n + n))) (Res.tmp rfl rfl) (h' := [(1, (.box [(.p (.sl false 1 (L.map D.cInt))), (vI ((i + 1 : Nat) : Int))]))]) rfl rfl ?_
    exact ⟨by rw [nextN_cast, (next_neg (L := L) (i := i) (n := n) (by omega) (by omega) (by omega)).1], by rw [(next_neg (L := L) (i := i) (n := n) (by omega) (by omega) (by omega)).2]⟩
   ·skip
    replace hc3 := of_decide_eq_false hc3
    refine AWp.skip ?_
    refine nextQ_normal ?_
    refine AWp.s_reg hGn hGk (aa 2) (Man.aa _ _) [(4, (vI ((nth L i).tmod n)))] [(1, a'2)] (by kernel_rfl) (by kernel_rfl) ?_
    refine AWp.ret ?_
    refine fin_of (.inr rfl) (v := (vI ((nth L i).tmod n))) (Res.tmp rfl rfl) (h' := [(1, (.box [(.p (.sl false 1 (L.map D.cInt))), (vI ((i + 1 : Nat) : Int))]))]) rfl rfl ?_
    exact ⟨by rw [nextN_cast, (next_pos (L := L) (i := i) (n := n) (by omega) (by omega) (by omega)).1], by rw [(next_pos (L := L) (i := i) (n := n) (by omega) (by omega) (by omega)).2]⟩
theorem made_One (L : List Int) (i : Nat) (l : List Int) (f : Bool) (hL : L.length ≤ 500) (hi : i ≤ L.length) (hl : 1 ≤ l.length ∧ l.length ≤ 1000) :
    SpecIs Tryz.prog 36 [(.ref 1 0), (.p (.sl f 1 (l.map D.cInt)))] [(1, (.box [(.p (.sl false 1 (L.map D.cInt))), (vI ((i : Nat) : Int))]))] (vI (oneV L i l)) [(1, (.box [(.p (.sl false 1 (L.map D.cInt))), (vI ((oneI L i l : Nat) : Int))]))] := by
 refine Spec.intro Tryz.func36 rfl (by kernel_rfl) ?_
 intro Γ hGn hGk
 replace hGn : Γ.n = 12 := hGn
 replace hGk : Γ.names = [1] := hGk
 have hb := nextN_lt L i ((l.length : Nat) : Int) (by omega)
 let a'1 : AO := (.box [(.p (.sl false 1 (L.map D.cInt))), (vI ((i : Nat) : Int))])
 refine AWp.weaken (mk [(0, (.ref 1 0)), (1, (.p (.sl f 1 (l.map D.cInt))))] [(1, a'1)]) (Weak.sub' hGk (by kernel_rfl)) ?_
 refine AWp.s_reg hGn hGk (aa 1) (Man.aa _ _) [(0, (.ref 1 0)), (1, (.p (.sl f 1 (l.map D.cInt))))] [(1, a'1)] (by kernel_rfl) (by kernel_rfl) ?_
 refine AWp.s_reg hGn hGk [.a, .a, .a, .m (some 8) ⟨[(7, (.p (.sl f 1 (l.map D.cInt))))], [], (vI ((l.length : Nat) : Int)), [], []⟩, .m (some 9) ⟨[(6, (.ref 1 0)), (8, (vI ((l.length : Nat) : Int)))], [(1, a'1)], (vI ((nextN L i ((l.length : Nat) : Int) : Nat) : Int)), [(1, (.box [(.p (.sl false 1 (L.map D.cInt))), (vI ((nextI L i ((l.length : Nat) : Int) : Nat) : Int))]))], []⟩, .m (some 10) ⟨[(5, (.p (.sl f 1 (l.map D.cInt)))), (9, (vI ((nextN L i ((l.length : Nat) : Int) : Nat) : Int)))], [], (.eptr [(pI (nth l (nextN L i ((l.length : Nat) : Int))))]), [], []⟩, .a, .a] ⟨StepOK.p rfl rfl rfl (OpOK.lenP (e := 3) rfl rfl (by kernel_rfl) rfl (by rw [List.length_map])),
  StepOK.p rfl rfl rfl (OpOK.call rfl (by kernel_rfl) rfl (made_Next L i ((l.length : Nat) : Int) hL (by repeat (first | assumption | exact Nat.zero_le _ | apply nextI_le | apply oneI_le | apply targetI_le | apply teamI_le | apply stepI_le | apply policyI_le)) (by omega)) (by kernel_rfl)),
  StepOK.p rfl rfl rfl (OpOK.indexP (e := 3) rfl (by kernel_rfl) (by kernel_rfl) rfl rfl rfl (map_nth (by omega))), trivial⟩ [(4, (vI (nth l (nextN L i ((l.length : Nat) : Int)))))] [(1, (.box [(.p (.sl false 1 (L.map D.cInt))), (vI ((nextI L i ((l.length : Nat) : Int) : Nat) : Int))]))] (by kernel_rfl) (by kernel_rfl) ?_
 refine AWp.ret ?_
 refine fin_of (.inr rfl) (v := (vI (nth l (nextN L i ((l.length : Nat) : Int))))) (Res.tmp rfl rfl) (h' := [(1, (.box [(.p (.sl false 1 (L.map D.cInt))), (vI ((nextI L i ((l.length : Nat) : Int) : Nat) : Int))]))]) rfl rfl ?_
 exact ⟨rfl, rfl⟩
theorem made_Target (L : List Int) (i : Nat) (ts : List D.Team) (f : Bool) (hL : L.length ≤ 500) (hi : i ≤ L.length) (ht : ts.length ≤ 100) :
    SpecIs Tryz.prog 57 [(.ref 1 0), (.agg [(.p (.sl f 2 (ts.map D.Team.cells))), .any])] [(1, (.box [(.p (.sl false 1 (L.map D.cInt))), (vI ((i : Nat) : Int))]))] (.agg [(vI ((target L i ts.length).Kind)), (vI ((target L i ts.length).Index))]) [(1, (.box [(.p (.sl false 1 (L.map D.cInt))), (vI ((targetI L i ts.length : Nat) : Int))]))] := by
 refine Spec.intro Tryz.func57 rfl (by kernel_rfl) ?_
 intro Γ hGn hGk
 replace hGn : Γ.n = 29 := hGn
 replace hGk : Γ.names = [1] := hGk
 have hb := nextN_lt L i 3 (by omega)
 have hb2 := nth3_le (ts.length : Int) (nextN L i 3) (by omega)
 let a'1 : AV := (.p (.sl f 2 (ts.map D.Team.cells)))
 let a'2 : AO := (.box [(.p (.sl false 1 (L.map D.cInt))), (vI ((i : Nat) : Int))])
 refine AWp.weaken (mk [(0, (.ref 1 0)), (1, (.agg [a'1, .any]))] [(1, a'2)]) (Weak.sub' hGk (by kernel_rfl)) ?_
 let a'3 : AO := (.box [a'1, .any])
 refine AWp.s_reg hGn hGk (aa 2) (Man.aa _ _) [(0, (.ref 1 0)), (3, (.ref 1003 0)), (4, (.ref 1004 0))] [(1, a'2), (1003, a'3), (1004, (.box [(vI 0), (vI 0)]))] (by kernel_rfl) (by kernel_rfl) ?_
 have hf1 := nextN_lt L i 3 (by omega)
 let a'4 : AO := (.box [(.p (.sl false 1 (L.map D.cInt))), (vI ((nextI L i 3 : Nat) : Int))])
 refine AWp.s_reg hGn hGk [.a, .m (some 8) ⟨[(7, (.ref 1 0))], [(1, a'2)], (vI ((nextN L i 3 : Nat) : Int)), [(1, a'4)], []⟩, .a] ⟨StepOK.p rfl rfl rfl (OpOK.call rfl (by kernel_rfl) rfl (made_Next L i 3 hL (by repeat (first | assumption | exact Nat.zero_le _ | apply nextI_le | apply oneI_le | apply targetI_le | apply teamI_le | apply stepI_le | apply policyI_le)) (by omega)) (by kernel_rfl)), trivial⟩ [(0, (.ref 1 0)), (3, (.ref 1003 0)), (4, (.ref 1004 0)), (5, (vI ((nextN L i 3 : Nat) : Int)))] [(1, a'4), (1003, a'3), (1004, (.box [(vI 0), (vI 0)]))] (by kernel_rfl) (by kernel_rfl) ?_
 refine AWp.seq ?_
 by_cases hs2 : ((nextN L i 3 : Nat) : Int) = (2 : Int)
 ·skip
  refine AWp.s_reg hGn hGk [.a, .m (some 10) ⟨[(9, (vI ((nextN L i 3 : Nat) : Int)))], [], (vB true), [], []⟩, .a, .a, .a, .m (some 14) ⟨[(13, a'1), (11, (vB true))], [], (vI ((ts.length : Nat) : Int)), [], []⟩, .a, .a] ⟨StepOK.p rfl rfl rfl (OpOK.eqlI rfl rfl rfl (decide_eq_true hs2)),
   StepOK.g rfl rfl rfl rfl rfl (by simp) (OpOK.lenP (e := 111) rfl rfl (by kernel_rfl) rfl (by rw [List.length_map])), trivial⟩ [(0, (.ref 1 0)), (3, (.ref 1003 0)), (4, (.ref 1004 0)), (5, (vI ((nextN L i 3 : Nat) : Int))), (16, (vB (decide (((ts.length : Nat) : Int) = (0 : Int)))))] [(1, a'4), (1003, a'3), (1004, (.box [(vI 0), (vI 0)]))] (by kernel_rfl) (by kernel_rfl) ?_
  refine AWp.cond (decide (((ts.length : Nat) : Int) = (0 : Int))) rfl (fun hc3 => ?_) (fun hc3 => ?_)
  ·skip
   replace hc3 := of_decide_eq_true hc3
   refine AWp.reg' hGn hGk (aa 1) (Man.aa _ _) [(0, (.ref 1 0)), (3, (.ref 1003 0)), (4, (.ref 1004 0)), (5, (vI 0))] [(1, a'4), (1003, a'3), (1004, (.box [(vI 0), (vI 0)]))] (by kernel_rfl) (by kernel_rfl) ?_
   refine nextQ_normal ?_
   let a'5 : AV := (.p (.sl true 1 [[(pI 4)], [(pI 2)], [(pI ((ts.length : Nat) : Int))]]))
   refine AWp.s_reg hGn hGk [.a, .a, .m (some 19) ⟨[(18, a'1)], [], (vI ((ts.length : Nat) : Int)), [], []⟩, .a, .a, .m (some 22) ⟨[(20, a'5), (21, (vI 0))], [], (.eptr [(pI 4)]), [], []⟩, .a, .a] ⟨StepOK.p rfl rfl rfl (OpOK.lenP (e := 111) rfl rfl (by kernel_rfl) rfl (by rw [List.length_map])),
    StepOK.p rfl rfl rfl (OpOK.indexP (e := 3) rfl (by kernel_rfl) (by kernel_rfl) rfl rfl rfl rfl), trivial⟩ [(0, (.ref 1 0)), (4, (.ref 1004 0)), (5, (vI 0)), (6, (vI 4))] [(1, a'4), (1004, (.box [(vI 0), (vI 0)]))] (by kernel_rfl) (by kernel_rfl) ?_
   have hf4 := nextN_lt L (nextI L i 3) 4 (by omega)
   refine AWp.s_reg hGn hGk [.a, .a, .a, .m (some 27) ⟨[(25, (.ref 1 0)), (26, (vI 4))], [(1, a'4)], (vI ((nextN L (nextI L i 3) 4 : Nat) : Int)), [(1, (.box [(.p (.sl false 1 (L.map D.cInt))), (vI ((nextI L (nextI L i 3) 4 : Nat) : Int))]))], []⟩, .a, .a] ⟨StepOK.p rfl rfl rfl (OpOK.call rfl (by kernel_rfl) rfl (made_Next L (nextI L i 3) 4 hL (by repeat (first | assumption | exact Nat.zero_le _ | apply nextI_le | apply oneI_le | apply targetI_le | apply teamI_le | apply stepI_le | apply policyI_le)) (by omega)) (by kernel_rfl)), trivial⟩ [(4, (.ref 1004 0))] [(1, (.box [(.p (.sl false 1 (L.map D.cInt))), (vI ((nextI L (nextI L i 3) 4 : Nat) : Int))])), (1004, (.box [(vI 0), (vI ((nextN L (nextI L i 3) 4 : Nat) : Int))]))] (by kernel_rfl) (by kernel_rfl) ?_
   refine AWp.ret ?_
   refine fin_of (.inr rfl) (v := (.agg [(vI 0), (vI ((nextN L (nextI L i 3) 4 : Nat) : Int))])) (Res.agg rfl rfl rfl (by kernel_rfl) (by kernel_rfl)) (h' := [(1, (.box [(.p (.sl false 1 (L.map D.cInt))), (vI ((nextI L (nextI L i 3) 4 : Nat) : Int))]))]) rfl rfl ?_
   have hK : targetK L i ts.length = 0 := by unfold targetK; rw [if_pos (by omega)]
   exact ⟨by simp only [target, targetN, hK] <;> rfl, by simp only [targetI, targetN, hK] <;> rfl⟩
  ·skip
   replace hc3 := of_decide_eq_false hc3
   refine AWp.skip ?_
   refine nextQ_normal ?_
   let a'6 : AV := (.p (.sl true 1 [[(pI 4)], [(pI 2)], [(pI ((ts.length : Nat) : Int))]]))
   refine AWp.s_reg hGn hGk [.a, .a, .m (some 19) ⟨[(18, a'1)], [], (vI ((ts.length : Nat) : Int)), [], []⟩, .a, .a, .m (some 22) ⟨[(20, a'6), (21, (vI ((nextN L i 3 : Nat) : Int)))], [], (.eptr [(pI (nth ([4, 2, ((ts.length : Nat) : Int)] : List Int) (nextN L i 3)))]), [], []⟩, .a, .a] ⟨StepOK.p rfl rfl rfl (OpOK.lenP (e := 111) rfl rfl (by kernel_rfl) rfl (by rw [List.length_map])),
    StepOK.p rfl rfl rfl (OpOK.indexP (e := 3) rfl (by kernel_rfl) (by kernel_rfl) rfl rfl rfl (map_nth (l := ([4, 2, ((ts.length : Nat) : Int)] : List Int)) (f := D.cInt) (by simp only [List.length_cons, List.length_nil]; omega))), trivial⟩ [(0, (.ref 1 0)), (4, (.ref 1004 0)), (5, (vI ((nextN L i 3 : Nat) : Int))), (6, (vI (nth ([4, 2, ((ts.length : Nat) : Int)] : List Int) (nextN L i 3))))] [(1, a'4), (1004, (.box [(vI 0), (vI 0)]))] (by kernel_rfl) (by kernel_rfl) ?_
   let a'7 : AO := (.box [(.p (.sl false 1 (L.map D.cInt))), (vI ((nextI L (nextI L i 3) (nth ([4, 2, ((ts.length : Nat) : Int)] : List Int) (nextN L i 3)) : Nat) : Int))])
   refine AWp.s_reg hGn hGk [.a, .a, .a, .m (some 27) ⟨[(25, (.ref 1 0)), (26, (vI (nth ([4, 2, ((ts.length : Nat) : Int)] : List Int) (nextN L i 3))))], [(1, a'4)], (vI ((nextN L (nextI L i 3) (nth ([4, 2, ((ts.length : Nat) : Int)] : List Int) (nextN L i 3)) : Nat) : Int)), [(1, a'7)], []⟩, .a, .a] ⟨StepOK.p rfl rfl rfl (OpOK.call rfl (by kernel_rfl) rfl (made_Next L (nextI L i 3) (nth ([4, 2, ((ts.length : Nat) : Int)] : List Int) (nextN L i 3)) hL (by repeat (first | assumption | exact Nat.zero_le _ | apply nextI_le | apply oneI_le | apply targetI_le | apply teamI_le | apply stepI_le | apply policyI_le)) (by omega)) (by kernel_rfl)), trivial⟩ [(4, (.ref 1004 0))] [(1, a'7), (1004, (.box [(vI ((nextN L i 3 : Nat) : Int)), (vI ((nextN L (nextI L i 3) (nth ([4, 2, ((ts.length : Nat) : Int)] : List Int) (nextN L i 3)) : Nat) : Int))]))] (by kernel_rfl) (by kernel_rfl) ?_
   refine AWp.ret ?_
   refine fin_of (.inr rfl) (v := (.agg [(vI ((nextN L i 3 : Nat) : Int)), (vI ((nextN L (nextI L i 3) (nth ([4, 2, ((ts.length : Nat) : Int)] : List Int) (nextN L i 3)) : Nat) : Int))])) (Res.agg rfl rfl rfl (by kernel_rfl) (by kernel_rfl)) (h' := [(1, (.box [(.p (.sl false 1 (L.map D.cInt))), (vI ((nextI L (nextI L i 3) (nth ([4, 2, ((ts.length : Nat) : Int)] : List Int) (nextN L i 3)) : Nat) : Int))]))]) rfl rfl ?_
   have hK : targetK L i ts.length = nextN L i 3 := by unfold targetK; rw [if_neg (by omega)]
   exact ⟨by simp only [target, targetN, hK] <;> rfl, by simp only [targetI, targetN, hK] <;> rfl⟩
 ·skip
  refine AWp.s_reg hGn hGk [.a, .m (some 10) ⟨[(9, (vI ((nextN L i 3 : Nat) : Int)))], [], (vB false), [], []⟩, .a, .a, .a, .a, .a, .a] ⟨StepOK.p rfl rfl rfl (OpOK.eqlI rfl rfl rfl (decide_eq_false hs2)), trivial⟩ [(0, (.ref 1 0)), (3, (.ref 1003 0)), (4, (.ref 1004 0)), (5, (vI ((nextN L i 3 : Nat) : Int))), (16, (vB false))] [(1, a'4), (1003, a'3), (1004, (.box [(vI 0), (vI 0)]))] (by kernel_rfl) (by kernel_rfl) ?_
  refine AWp.cond_false rfl ?_
  refine AWp.skip ?_
  refine nextQ_normal ?_
  let a'8 : AV := (.p (.sl true 1 [[(pI 4)], [(pI 2)], [(pI ((ts.length : Nat) : Int))]]))
  refine AWp.s_reg hGn hGk [.a, .a, .m (some 19) ⟨[(18, a'1)], [], (vI ((ts.length : Nat) : Int)), [], []⟩, .a, .a, .m (some 22) ⟨[(20, a'8), (21, (vI ((nextN L i 3 : Nat) : Int)))], [], (.eptr [(pI (nth ([4, 2, ((ts.length : Nat) : Int)] : List Int) (nextN L i 3)))]), [], []⟩, .a, .a] ⟨StepOK.p rfl rfl rfl (OpOK.lenP (e := 111) rfl rfl (by kernel_rfl) rfl (by rw [List.length_map])),
   StepOK.p rfl rfl rfl (OpOK.indexP (e := 3) rfl (by kernel_rfl) (by kernel_rfl) rfl rfl rfl (map_nth (l := ([4, 2, ((ts.length : Nat) : Int)] : List Int)) (f := D.cInt) (by simp only [List.length_cons, List.length_nil]; omega))), trivial⟩ [(0, (.ref 1 0)), (4, (.ref 1004 0)), (5, (vI ((nextN L i 3 : Nat) : Int))), (6, (vI (nth ([4, 2, ((ts.length : Nat) : Int)] : List Int) (nextN L i 3))))] [(1, a'4), (1004, (.box [(vI 0), (vI 0)]))] (by kernel_rfl) (by kernel_rfl) ?_
  let a'9 : AO := (.box [(.p (.sl false 1 (L.map D.cInt))), (vI ((nextI L (nextI L i 3) (nth ([4, 2, ((ts.length : Nat) : Int)] : List Int) (nextN L i 3)) : Nat) : Int))])
  refine AWp.s_reg hGn hGk [.a, .a, .a, .m (some 27) ⟨[(25, (.ref 1 0)), (26, (vI (nth ([4, 2, ((ts.length : Nat) : Int)] : List Int) (nextN L i 3))))], [(1, a'4)], (vI ((nextN L (nextI L i 3) (nth ([4, 2, ((ts.length : Nat) : Int)] : List Int) (nextN L i 3)) : Nat) : Int)), [(1, a'9)], []⟩, .a, .a] ⟨StepOK.p rfl rfl rfl (OpOK.call rfl (by kernel_rfl) rfl (made_Next L (nextI L i 3) (nth ([4, 2, ((ts.length : Nat) : Int)] : List Int) (nextN L i 3)) hL (by repeat (first | assumption | exact Nat.zero_le _ | apply nextI_le | apply oneI_le | apply targetI_le | apply teamI_le | apply stepI_le | apply policyI_le)) (by omega)) (by kernel_rfl)), trivial⟩ [(4, (.ref 1004 0))] [(1, a'9), (1004, (.box [(vI ((nextN L i 3 : Nat) : Int)), (vI ((nextN L (nextI L i 3) (nth ([4, 2, ((ts.length : Nat) : Int)] : List Int) (nextN L i 3)) : Nat) : Int))]))] (by kernel_rfl) (by kernel_rfl) ?_
  refine AWp.ret ?_
  refine fin_of (.inr rfl) (v := (.agg [(vI ((nextN L i 3 : Nat) : Int)), (vI ((nextN L (nextI L i 3) (nth ([4, 2, ((ts.length : Nat) : Int)] : List Int) (nextN L i 3)) : Nat) : Int))])) (Res.agg rfl rfl rfl (by kernel_rfl) (by kernel_rfl)) (h' := [(1, (.box [(.p (.sl false 1 (L.map D.cInt))), (vI ((nextI L (nextI L i 3) (nth ([4, 2, ((ts.length : Nat) : Int)] : List Int) (nextN L i 3)) : Nat) : Int))]))]) rfl rfl ?_
  have hK : targetK L i ts.length = nextN L i 3 := by unfold targetK; rw [if_neg (by omega)]
  exact ⟨by simp only [target, targetN, hK] <;> rfl, by simp only [targetI, targetN, hK] <;> rfl⟩
theorem made_Book (L : List Int) (i : Nat) (hL : L.length ≤ 500) (hi : i ≤ L.length) :
    SpecIs Tryz.prog 31 [(.ref 1 0)] [(1, (.box [(.p (.sl false 1 (L.map D.cInt))), (vI ((i : Nat) : Int))]))] (.agg [(.p (.sl false 2 (((book L i).Teams).map D.Team.cells))), (.p (.sl false 3 (((book L i).Policies).map D.Policy.cells)))]) [(1, (.box [(.p (.sl false 1 (L.map D.cInt))), (vI ((bookI L i : Nat) : Int))]))] := by
 refine Spec.intro Tryz.func31 rfl (by kernel_rfl) ?_
 intro Γ hGn hGk
 replace hGn : Γ.n = 102 := hGn
 replace hGk : Γ.names = [1] := hGk
 let a'1 : AO := (.box [(.p (.sl false 1 (L.map D.cInt))), (vI ((i : Nat) : Int))])
 refine AWp.weaken (mk [(0, (.ref 1 0))] [(1, a'1)]) (Weak.sub' hGk (by kernel_rfl)) ?_
 let a'2 : AO := (.box [(.p (.sl true 0 [])), (.p (.sl true 0 []))])
 refine AWp.s_reg hGn hGk (aa 1) (Man.aa _ _) [(0, (.ref 1 0)), (2, (.ref 1002 0))] [(1, a'1), (1002, a'2)] (by kernel_rfl) (by kernel_rfl) ?_
 refine AWp.s_reg hGn hGk (aa 1) (Man.aa _ _) [(0, (.ref 1 0)), (2, (.ref 1002 0)), (3, (.ref 1003 0))] [(1, a'1), (1002, a'2), (1003, a'2)] (by kernel_rfl) (by kernel_rfl) ?_
 refine AWp.seq ?_
 have hf1 := nextN_lt L i 3 (by omega)
 let a'3 : AO := (.box [(.p (.sl false 1 (L.map D.cInt))), (vI ((nextI L i 3 : Nat) : Int))])
 refine AWp.s_reg hGn hGk [.a, .m (some 12) ⟨[(11, (.ref 1 0))], [(1, a'1)], (vI ((nextN L i 3 : Nat) : Int)), [(1, a'3)], []⟩, .a] ⟨StepOK.p rfl rfl rfl (OpOK.call rfl (by kernel_rfl) rfl (made_Next L i 3 hL (by repeat (first | assumption | exact Nat.zero_le _ | apply nextI_le | apply oneI_le | apply targetI_le | apply teamI_le | apply stepI_le | apply policyI_le)) (by omega)) (by kernel_rfl)), trivial⟩ [(0, (.ref 1 0)), (2, (.ref 1002 0)), (3, (.ref 1003 0)), (4, (vI ((nextN L i 3 : Nat) : Int)))] [(1, a'3), (1002, a'2), (1003, a'2)] (by kernel_rfl) (by kernel_rfl) ?_
 refine AWp.block ?_
 refine AWp.weaken (mk [(0, (.ref 1 0)), (2, (.ref 1002 0)), (3, (.ref 1003 0)), (4, (vI ((nextN L i 3 : Nat) : Int)))] [(1003, a'2), (1, a'3), (1002, a'2)]) (Weak.sub' hGk (by kernel_rfl)) ?_
 refine AWp.weaken (mk [(0, (.ref 1 0)), (2, (.ref 1002 0)), (3, (.ref 1003 0)), (4, (vI ((nextN L i 3 : Nat) : Int)))] [(1003, (.box [(.own 2000 0), (.p (.sl true 0 []))])), (2000, (.arr 2 [])), (1, a'3), (1002, a'2)]) (Weak.thawCell (j := 0) (es0 := 0) (by kernel_rfl) rfl rfl (by kernel_rfl) (by kernel_rfl) rfl) ?_
 refine AWp.loop (fun m s => ∃ n, ∃ (ts : List D.Team), ∃ i1, s = (mk [(0, (.ref 1 0)), (2, (.ref 1002 0)), (3, (.ref 1003 0)), (4, (vI ((n : Nat) : Int)))] [(1003, (.box [(.own 2000 ((ts.map D.Team.cells).length)), (.p (.sl true 0 []))])), (2000, (.arr 2 (ts.map D.Team.cells))), (1, (.box [(.p (.sl false 1 (L.map D.cInt))), (vI ((i1 : Nat) : Int))])), (1002, (.box [(.p (.sl true 0 [])), (.p (.sl true 0 []))]))]) ∧ (ts.length + n ≤ 2) ∧ (i1 ≤ L.length) ∧ (teams L n ts i1 = bookT L i) ∧ m = n)
  ⟨_, (nextN L i 3), ([]), (nextI L i 3), rfl, (by have := nextN_lt L i 3 (by omega); simp only [List.length_nil]; omega), (by repeat (first | assumption | exact Nat.zero_le _ | apply nextI_le | apply oneI_le | apply targetI_le | apply teamI_le | apply stepI_le | apply policyI_le)), rfl, rfl⟩ ?_
 rintro mm2 s ⟨n, ts, i1, rfl, hb, hi1, heq, hmm2⟩
 refine AWp.seq ?_
 let a'4 : AV := (.own 2000 ((ts.map D.Team.cells).length))
 let a'5 : AO := (.box [a'4, (.p (.sl true 0 []))])
 let a'6 : AO := (.box [(.p (.sl false 1 (L.map D.cInt))), (vI ((i1 : Nat) : Int))])
 refine AWp.s_reg hGn hGk (aa 2) (Man.aa _ _) [(0, (.ref 1 0)), (2, (.ref 1002 0)), (3, (.ref 1003 0)), (4, (vI ((n : Nat) : Int))), (14, (vB (decide ((0 : Int) < ((n : Nat) : Int)))))] [(1003, a'5), (2000, (.arr 2 (ts.map D.Team.cells))), (1, a'6), (1002, a'2)] (by kernel_rfl) (by kernel_rfl) ?_
 refine AWp.cond (decide ((0 : Int) < ((n : Nat) : Int))) rfl (fun hc3 => ?_) (fun hc3 => ?_)
 ·skip
  replace hc3 := of_decide_eq_true hc3
  refine AWp.skip ?_
  refine nextQ_normal ?_
  refine AWp.seq ?_
  refine AWp.block ?_
  have hf4 := nextN_lt L i1 2 (by omega)
  let a'7 : AO := (.box [(.p (.sl false 1 (L.map D.cInt))), (vI ((nextI L i1 2 : Nat) : Int))])
  let a'8 : AV := (.p (.sl true 1 [[(pI ((nextN L i1 2 : Nat) : Int))]]))
  refine AWp.s_dreg hGn hGk (by kernel_rfl) [.a, .a, .a, .m (some 20) ⟨[(19, a'4)], [(2000, (.arr 2 (ts.map D.Team.cells)))], (vI ((ts.length : Nat) : Int)), [], []⟩, .m (some 21) ⟨[(17, (.p (.sl true 1 [[(pS (ByteArray.mk #[99, 111, 114, 101]))], [(pS (ByteArray.mk #[119, 101, 98]))]]))), (20, (vI ((ts.length : Nat) : Int)))], [], (.eptr [(pS (nth ([(ByteArray.mk #[99, 111, 114, 101]), (ByteArray.mk #[119, 101, 98])] : List ByteArray) ts.length))]), [], []⟩, .a, .a, .m (some 24) ⟨[(23, (.ref 1 0))], [(1, a'6)], (vI ((nextN L i1 2 : Nat) : Int)), [(1, a'7)], []⟩, .a, .a, .a, .a] ⟨StepOK.p rfl rfl rfl (OpOK.lenOwn (e := 111) rfl rfl (by kernel_rfl) rfl (Nat.beq_refl _) (by rw [List.length_map])),
   StepOK.p rfl rfl rfl (OpOK.indexP (e := 9) rfl (by kernel_rfl) (by kernel_rfl) rfl rfl rfl (map_nth (l := ([(ByteArray.mk #[99, 111, 114, 101]), (ByteArray.mk #[119, 101, 98])] : List ByteArray)) (f := D.cStr) (by simp only [List.length_cons, List.length_nil]; omega))),
   StepOK.p rfl rfl rfl (OpOK.call rfl (by kernel_rfl) rfl (made_Next L i1 2 hL (by repeat (first | assumption | exact Nat.zero_le _ | apply nextI_le | apply oneI_le | apply targetI_le | apply teamI_le | apply stepI_le | apply policyI_le)) (by omega)) (by kernel_rfl)), trivial⟩ [(0, (.ref 1 0)), (2, (.ref 1002 0)), (3, (.ref 1003 0)), (4, (vI ((n : Nat) : Int))), (5, (.ref 1005 0))] [(1003, a'5), (2000, (.arr 2 (ts.map D.Team.cells))), (1, a'7), (1002, a'2), (1005, (.box [(vS (nth ([(ByteArray.mk #[99, 111, 114, 101]), (ByteArray.mk #[119, 101, 98])] : List ByteArray) ts.length)), a'8]))] (by kernel_rfl) (by kernel_rfl) (by kernel_rfl) ?_
  refine AWp.seq ?_
  have hf5 := nextN_lt L (nextI L i1 2) 2 (by omega)
  let a'9 : AO := (.box [(.p (.sl false 1 (L.map D.cInt))), (vI ((nextI L (nextI L i1 2) 2 : Nat) : Int))])
  refine AWp.s_reg hGn hGk [.a, .m (some 28) ⟨[(27, (.ref 1 0))], [(1, a'7)], (vI ((nextN L (nextI L i1 2) 2 : Nat) : Int)), [(1, a'9)], []⟩, .a] ⟨StepOK.p rfl rfl rfl (OpOK.call rfl (by kernel_rfl) rfl (made_Next L (nextI L i1 2) 2 hL (by repeat (first | assumption | exact Nat.zero_le _ | apply nextI_le | apply oneI_le | apply targetI_le | apply teamI_le | apply stepI_le | apply policyI_le)) (by omega)) (by kernel_rfl)), trivial⟩ [(0, (.ref 1 0)), (2, (.ref 1002 0)), (3, (.ref 1003 0)), (4, (vI ((n : Nat) : Int))), (5, (.ref 1005 0)), (29, (vB (decide (((nextN L (nextI L i1 2) 2 : Nat) : Int) = (0 : Int)))))] [(1003, a'5), (2000, (.arr 2 (ts.map D.Team.cells))), (1, a'9), (1002, a'2), (1005, (.box [(vS (nth ([(ByteArray.mk #[99, 111, 114, 101]), (ByteArray.mk #[119, 101, 98])] : List ByteArray) ts.length)), a'8]))] (by kernel_rfl) (by kernel_rfl) ?_
  refine AWp.cond (decide (((nextN L (nextI L i1 2) 2 : Nat) : Int) = (0 : Int))) rfl (fun hc6 => ?_) (fun hc6 => ?_)
  ·skip
   replace hc6 := of_decide_eq_true hc6
   have hb7 := nextN_lt L (nextI L (nextI L i1 2) 2) 2 (by omega)
   have hf7 := nextN_lt L (nextI L (nextI L i1 2) 2) 2 (by omega)
   let a'10 : AO := (.box [(.p (.sl false 1 (L.map D.cInt))), (vI ((nextI L (nextI L (nextI L i1 2) 2) 2 : Nat) : Int))])
   let a'11 : AO := (.arr 1 [[(pI ((nextN L i1 2 : Nat) : Int))], [(pI ((2 + (nextN L (nextI L (nextI L i1 2) 2) 2) : Nat) : Int))]])
   refine AWp.dreg' hGn hGk (by kernel_rfl) [.a, .a, .a, .m (some 33) ⟨[(32, (.ref 1 0))], [(1, a'9)], (vI ((nextN L (nextI L (nextI L i1 2) 2) 2 : Nat) : Int)), [(1, a'10)], []⟩, .m (some 34) ⟨[(33, (vI ((nextN L (nextI L (nextI L i1 2) 2) 2 : Nat) : Int)))], [], (vI ((2 + (nextN L (nextI L (nextI L i1 2) 2) 2) : Nat) : Int)), [], []⟩, .a, .m (some 36) ⟨[(31, a'8), (35, (.p (.sl true 1 [[(pI ((2 + (nextN L (nextI L (nextI L i1 2) 2) 2) : Nat) : Int))]])))], [], (.own 1036 2), [(1036, a'11)], [1036]⟩, .a, .a] ⟨StepOK.p rfl rfl rfl (OpOK.call rfl (by kernel_rfl) rfl (made_Next L (nextI L (nextI L i1 2) 2) 2 hL (by repeat (first | assumption | exact Nat.zero_le _ | apply nextI_le | apply oneI_le | apply targetI_le | apply teamI_le | apply stepI_le | apply policyI_le)) (by omega)) (by kernel_rfl)),
    StepOK.p rfl rfl rfl (OpOK.add rfl rfl rfl (by rw [IntWalk.i64_in _ ⟨by omega, by omega⟩]; omega)),
    StepOK.p rfl rfl rfl (OpOK.appendNew (e := 3) (bytes := 8) rfl rfl (by kernel_rfl) (by kernel_rfl) (by kernel_rfl) rfl rfl rfl rfl (.inr ⟨by simp, rfl⟩) (by simp only [List.length_map, List.length_cons, List.length_nil]; omega) (by simp only [List.length_map, List.length_cons, List.length_nil]; omega)), trivial⟩ [(0, (.ref 1 0)), (2, (.ref 1002 0)), (3, (.ref 1003 0)), (4, (vI ((n : Nat) : Int))), (5, (.ref 1005 0))] [(1003, a'5), (2000, (.arr 2 (ts.map D.Team.cells))), (1, a'10), (1002, a'2), (1005, (.box [(vS (nth ([(ByteArray.mk #[99, 111, 114, 101]), (ByteArray.mk #[119, 101, 98])] : List ByteArray) ts.length)), (.own 1036 2)])), (1036, a'11)] (by kernel_rfl) (by kernel_rfl) (by kernel_rfl) ?_
   refine nextQ_normal ?_
   refine AWp.weaken (mk [(0, (.ref 1 0)), (2, (.ref 1002 0)), (3, (.ref 1003 0)), (4, (vI ((n : Nat) : Int))), (5, (.ref 1005 0))] [(1036, a'11), (1003, a'5), (2000, (.arr 2 (ts.map D.Team.cells))), (1, a'10), (1002, a'2), (1005, (.box [(vS (nth ([(ByteArray.mk #[99, 111, 114, 101]), (ByteArray.mk #[119, 101, 98])] : List ByteArray) ts.length)), (.own 1036 2)]))]) (Weak.sub' hGk (by kernel_rfl)) ?_
   refine AWp.weaken (mk [(0, (.ref 1 0)), (2, (.ref 1002 0)), (3, (.ref 1003 0)), (4, (vI ((n : Nat) : Int))), (5, (.ref 1005 0))] [(1003, a'5), (2000, (.arr 2 (ts.map D.Team.cells))), (1, a'10), (1002, a'2), (1005, (.box [(vS (nth ([(ByteArray.mk #[99, 111, 114, 101]), (ByteArray.mk #[119, 101, 98])] : List ByteArray) ts.length)), (.p (.sl false 1 [[(pI ((nextN L i1 2 : Nat) : Int))], [(pI ((2 + (nextN L (nextI L (nextI L i1 2) 2) 2) : Nat) : Int))]]))]))]) (Weak.freeze (n := 1036) (es := 1) (rows := [[(pI ((nextN L i1 2 : Nat) : Int))], [(pI ((2 + (nextN L (nextI L (nextI L i1 2) 2) 2) : Nat) : Int))]]) (by rw [hGk]; decide) ⟨rfl, (.same rfl), ⟨rfl, (.same rfl), ⟨rfl, (.same rfl), ⟨rfl, (.same rfl), ⟨rfl, (.same rfl), trivial⟩⟩⟩⟩⟩ ⟨rfl, by decide, (.same rfl), ⟨rfl, by decide, (.same rfl), ⟨rfl, by decide, (.same rfl), ⟨rfl, by decide, (.same rfl), ⟨rfl, by decide, (.box (.cons (.same rfl) (.cons .own .nil))), trivial⟩⟩⟩⟩⟩) ?_
   let a'12 : AV := (.own 2000 (((ts ++ [(⟨nth ([(ByteArray.mk #[99, 111, 114, 101]), (ByteArray.mk #[119, 101, 98])] : List ByteArray) ts.length, ([((nextN L i1 2 : Nat) : Int), ((2 + (nextN L (nextI L (nextI L i1 2) 2) 2) : Nat) : Int)] : List Int)⟩ : D.Team)]).map D.Team.cells).length))
   let a'13 : AO := (.arr 2 ((ts ++ [(⟨nth ([(ByteArray.mk #[99, 111, 114, 101]), (ByteArray.mk #[119, 101, 98])] : List ByteArray) ts.length, ([((nextN L i1 2 : Nat) : Int), ((2 + (nextN L (nextI L (nextI L i1 2) 2) 2) : Nat) : Int)] : List Int)⟩ : D.Team)]).map D.Team.cells))
   refine AWp.reg' hGn hGk [.a, .a, .a, .a, .m (some 42) ⟨[(39, a'4), (41, (.p (.sl true 2 [[(pS (nth ([(ByteArray.mk #[99, 111, 114, 101]), (ByteArray.mk #[119, 101, 98])] : List ByteArray) ts.length)), (.sl false 1 [[(pI ((nextN L i1 2 : Nat) : Int))], [(pI ((2 + (nextN L (nextI L (nextI L i1 2) 2) 2) : Nat) : Int))]])]])))], [(2000, (.arr 2 (ts.map D.Team.cells)))], a'12, [(2000, a'13)], []⟩, .a, .a] ⟨StepOK.p rfl rfl rfl (OpOK.appendOwn (e := 111) (bytes := 40) rfl rfl (by kernel_rfl) (by kernel_rfl) rfl (Nat.beq_refl _) rfl (by rw [List.map_append]; rfl) rfl (by simp only [List.length_map, List.length_cons, List.length_nil]; omega) (by simp only [List.length_map, List.length_cons, List.length_nil]; omega)), trivial⟩ [(0, (.ref 1 0)), (2, (.ref 1002 0)), (3, (.ref 1003 0)), (4, (vI ((n : Nat) : Int)))] [(1003, (.box [a'12, (.p (.sl true 0 []))])), (2000, a'13), (1, a'10), (1002, a'2)] (by kernel_rfl) (by kernel_rfl) ?_
   refine blockQ_normal ?_
   refine nextQ_normal ?_
   refine AWp.reg' hGn hGk [.a, .m (some 16) ⟨[(15, (vI ((n : Nat) : Int)))], [], (vI ((n - 1 : Nat) : Int)), [], []⟩, .a] ⟨StepOK.p rfl rfl rfl (OpOK.sub rfl rfl rfl (by rw [IntWalk.i64_in _ ⟨by omega, by omega⟩]; omega)), trivial⟩ [(0, (.ref 1 0)), (2, (.ref 1002 0)), (3, (.ref 1003 0)), (4, (vI ((n - 1 : Nat) : Int)))] [(1003, (.box [a'12, (.p (.sl true 0 []))])), (2000, a'13), (1, a'10), (1002, a'2)] (by kernel_rfl) (by kernel_rfl) ?_
   refine nextQ_normal ⟨_, ?_, (n - 1), (ts ++ [(⟨nth ([(ByteArray.mk #[99, 111, 114, 101]), (ByteArray.mk #[119, 101, 98])] : List ByteArray) ts.length, ([((nextN L i1 2 : Nat) : Int), ((2 + (nextN L (nextI L (nextI L i1 2) 2) 2) : Nat) : Int)] : List Int)⟩ : D.Team)]), (nextI L (nextI L (nextI L i1 2) 2) 2), rfl, (by simp only [List.length_append, List.length_cons, List.length_nil]; omega), (by repeat (first | assumption | exact Nat.zero_le _ | apply nextI_le | apply oneI_le | apply targetI_le | apply teamI_le | apply stepI_le | apply policyI_le)), (by rw [← heq, teams_succ (n := n) (by omega), (team_two L i1 ts.length (by assumption)).1, (team_two L i1 ts.length (by assumption)).2]), rfl⟩
   · omega
  ·skip
   replace hc6 := of_decide_eq_false hc6
   refine AWp.skip ?_
   refine nextQ_normal ?_
   refine AWp.weaken (mk [(0, (.ref 1 0)), (2, (.ref 1002 0)), (3, (.ref 1003 0)), (4, (vI ((n : Nat) : Int))), (5, (.ref 1005 0)), (29, (vB (decide (((nextN L (nextI L i1 2) 2 : Nat) : Int) = (0 : Int)))))] [(1003, a'5), (2000, (.arr 2 (ts.map D.Team.cells))), (1, a'9), (1002, a'2), (1005, (.box [(vS (nth ([(ByteArray.mk #[99, 111, 114, 101]), (ByteArray.mk #[119, 101, 98])] : List ByteArray) ts.length)), (.p (.sl false 1 [[(pI ((nextN L i1 2 : Nat) : Int))]]))]))]) (Weak.le ⟨rfl, .refl _, ⟨rfl, .refl _, ⟨rfl, .refl _, ⟨rfl, .refl _, ⟨rfl, .refl _, ⟨rfl, .refl _, trivial⟩⟩⟩⟩⟩⟩ ⟨rfl, .refl _, ⟨rfl, .refl _, ⟨rfl, .refl _, ⟨rfl, .refl _, ⟨rfl, (.box (.cons (.refl _) (.cons (.p (PVle.full _)) .nil))), trivial⟩⟩⟩⟩⟩) ?_
   let a'14 : AV := (.own 2000 (((ts ++ [(⟨nth ([(ByteArray.mk #[99, 111, 114, 101]), (ByteArray.mk #[119, 101, 98])] : List ByteArray) ts.length, ([((nextN L i1 2 : Nat) : Int)] : List Int)⟩ : D.Team)]).map D.Team.cells).length))
   let a'15 : AO := (.arr 2 ((ts ++ [(⟨nth ([(ByteArray.mk #[99, 111, 114, 101]), (ByteArray.mk #[119, 101, 98])] : List ByteArray) ts.length, ([((nextN L i1 2 : Nat) : Int)] : List Int)⟩ : D.Team)]).map D.Team.cells))
   refine AWp.reg' hGn hGk [.a, .a, .a, .a, .m (some 42) ⟨[(39, a'4), (41, (.p (.sl true 2 [[(pS (nth ([(ByteArray.mk #[99, 111, 114, 101]), (ByteArray.mk #[119, 101, 98])] : List ByteArray) ts.length)), (.sl false 1 [[(pI ((nextN L i1 2 : Nat) : Int))]])]])))], [(2000, (.arr 2 (ts.map D.Team.cells)))], a'14, [(2000, a'15)], []⟩, .a, .a] ⟨StepOK.p rfl rfl rfl (OpOK.appendOwn (e := 111) (bytes := 40) rfl rfl (by kernel_rfl) (by kernel_rfl) rfl (Nat.beq_refl _) rfl (by rw [List.map_append]; rfl) rfl (by simp only [List.length_map, List.length_cons, List.length_nil]; omega) (by simp only [List.length_map, List.length_cons, List.length_nil]; omega)), trivial⟩ [(0, (.ref 1 0)), (2, (.ref 1002 0)), (3, (.ref 1003 0)), (4, (vI ((n : Nat) : Int)))] [(1003, (.box [a'14, (.p (.sl true 0 []))])), (2000, a'15), (1, a'9), (1002, a'2)] (by kernel_rfl) (by kernel_rfl) ?_
   refine blockQ_normal ?_
   refine nextQ_normal ?_
   refine AWp.reg' hGn hGk [.a, .m (some 16) ⟨[(15, (vI ((n : Nat) : Int)))], [], (vI ((n - 1 : Nat) : Int)), [], []⟩, .a] ⟨StepOK.p rfl rfl rfl (OpOK.sub rfl rfl rfl (by rw [IntWalk.i64_in _ ⟨by omega, by omega⟩]; omega)), trivial⟩ [(0, (.ref 1 0)), (2, (.ref 1002 0)), (3, (.ref 1003 0)), (4, (vI ((n - 1 : Nat) : Int)))] [(1003, (.box [a'14, (.p (.sl true 0 []))])), (2000, a'15), (1, a'9), (1002, a'2)] (by kernel_rfl) (by kernel_rfl) ?_
   refine nextQ_normal ⟨_, ?_, (n - 1), (ts ++ [(⟨nth ([(ByteArray.mk #[99, 111, 114, 101]), (ByteArray.mk #[119, 101, 98])] : List ByteArray) ts.length, ([((nextN L i1 2 : Nat) : Int)] : List Int)⟩ : D.Team)]), (nextI L (nextI L i1 2) 2), rfl, (by simp only [List.length_append, List.length_cons, List.length_nil]; omega), (by repeat (first | assumption | exact Nat.zero_le _ | apply nextI_le | apply oneI_le | apply targetI_le | apply teamI_le | apply stepI_le | apply policyI_le)), (by rw [← heq, teams_succ (n := n) (by omega), (team_one L i1 ts.length (by assumption)).1, (team_one L i1 ts.length (by assumption)).2]), rfl⟩
   · omega
 ·skip
  replace hc3 := of_decide_eq_false hc3
  refine AWp.weaken (mk [(0, (.ref 1 0)), (2, (.ref 1002 0)), (3, (.ref 1003 0))] [(1003, a'5), (2000, (.arr 2 (ts.map D.Team.cells))), (1, a'6), (1002, a'2)]) (Weak.sub' hGk (by kernel_rfl)) ?_
  refine AWp.exit ?_
  refine nextQ_exit ?_
  refine nextQ_exit ?_
  refine blockQ_exit ?_
  refine nextQ_normal ?_
  refine AWp.seq ?_
  have heq1 : bookT L i = (ts, i1) := by rw [← heq, show n = 0 from by omega]; rfl
  refine AWp.weaken (mk [(0, (.ref 1 0)), (2, (.ref 1002 0)), (3, (.ref 1003 0))] [(2000, (.arr 2 (ts.map D.Team.cells))), (1003, a'5), (1, a'6), (1002, a'2)]) (Weak.sub' hGk (by kernel_rfl)) ?_
  let a'16 : AV := (.p (.sl false 2 (ts.map D.Team.cells)))
  refine AWp.weaken (mk [(0, (.ref 1 0)), (2, (.ref 1002 0)), (3, (.ref 1003 0))] [(1003, (.box [a'16, (.p (.sl true 0 []))])), (1, a'6), (1002, a'2)]) (Weak.freeze (n := 2000) (es := 2) (rows := (ts.map D.Team.cells)) (by rw [hGk]; decide) ⟨rfl, (.same rfl), ⟨rfl, (.same rfl), ⟨rfl, (.same rfl), trivial⟩⟩⟩ ⟨rfl, by decide, (.box (.cons .own (.cons (.same rfl) .nil))), ⟨rfl, by decide, (.same rfl), ⟨rfl, by decide, (.same rfl), trivial⟩⟩⟩) ?_
  have hf8 := nextN_lt L i1 3 (by omega)
  let a'17 : AO := (.box [(.p (.sl false 1 (L.map D.cInt))), (vI ((nextI L i1 3 : Nat) : Int))])
  refine AWp.s_reg hGn hGk [.a, .m (some 45) ⟨[(44, (.ref 1 0))], [(1, a'6)], (vI ((nextN L i1 3 : Nat) : Int)), [(1, a'17)], []⟩, .m (some 46) ⟨[(45, (vI ((nextN L i1 3 : Nat) : Int)))], [], (vI ((1 + (nextN L i1 3) : Nat) : Int)), [], []⟩, .a] ⟨StepOK.p rfl rfl rfl (OpOK.call rfl (by kernel_rfl) rfl (made_Next L i1 3 hL (by repeat (first | assumption | exact Nat.zero_le _ | apply nextI_le | apply oneI_le | apply targetI_le | apply teamI_le | apply stepI_le | apply policyI_le)) (by omega)) (by kernel_rfl)),
   StepOK.p rfl rfl rfl (OpOK.add rfl rfl rfl (by rw [IntWalk.i64_in _ ⟨by omega, by omega⟩]; omega)), trivial⟩ [(0, (.ref 1 0)), (2, (.ref 1002 0)), (3, (.ref 1003 0)), (6, (vI ((1 + (nextN L i1 3) : Nat) : Int)))] [(1003, (.box [a'16, (.p (.sl true 0 []))])), (1, a'17), (1002, a'2)] (by kernel_rfl) (by kernel_rfl) ?_
  refine AWp.block ?_
  refine AWp.weaken (mk [(0, (.ref 1 0)), (2, (.ref 1002 0)), (3, (.ref 1003 0)), (6, (vI ((1 + (nextN L i1 3) : Nat) : Int)))] [(1003, (.box [a'16, (.own 2001 0)])), (2001, (.arr 3 [])), (1, a'17), (1002, a'2)]) (Weak.thawCell (j := 1) (es0 := 0) (by kernel_rfl) rfl rfl (by kernel_rfl) (by kernel_rfl) rfl) ?_
  refine AWp.loop (fun m s => ∃ n1, ∃ (qs : List D.Policy), ∃ i2, s = (mk [(0, (.ref 1 0)), (2, (.ref 1002 0)), (3, (.ref 1003 0)), (6, (vI ((n1 : Nat) : Int)))] [(1003, (.box [(.p (.sl false 2 (ts.map D.Team.cells))), (.own 2001 ((qs.map D.Policy.cells).length))])), (2001, (.arr 3 (qs.map D.Policy.cells))), (1, (.box [(.p (.sl false 1 (L.map D.cInt))), (vI ((i2 : Nat) : Int))])), (1002, (.box [(.p (.sl true 0 [])), (.p (.sl true 0 []))]))]) ∧ (qs.length + n1 ≤ 3) ∧ (i2 ≤ L.length) ∧ (policies L ts.length n1 qs i2 = bookP L i) ∧ m = n1)
   ⟨_, (1 + nextN L i1 3), ([]), (nextI L i1 3), rfl, (by have := nextN_lt L i1 3 (by omega); simp only [List.length_nil]; omega), (by repeat (first | assumption | exact Nat.zero_le _ | apply nextI_le | apply oneI_le | apply targetI_le | apply teamI_le | apply stepI_le | apply policyI_le)), (by unfold bookP; rw [heq1]), rfl⟩ ?_
  rintro mm9 s ⟨n1, qs, i2, rfl, hb1, hi2, heq2, hmm9⟩
  refine AWp.seq ?_
  let a'18 : AV := (.own 2001 ((qs.map D.Policy.cells).length))
  let a'19 : AO := (.box [a'16, a'18])
  let a'20 : AO := (.box [(.p (.sl false 1 (L.map D.cInt))), (vI ((i2 : Nat) : Int))])
  refine AWp.s_reg hGn hGk (aa 2) (Man.aa _ _) [(0, (.ref 1 0)), (2, (.ref 1002 0)), (3, (.ref 1003 0)), (6, (vI ((n1 : Nat) : Int))), (48, (vB (decide ((0 : Int) < ((n1 : Nat) : Int)))))] [(1003, a'19), (2001, (.arr 3 (qs.map D.Policy.cells))), (1, a'20), (1002, a'2)] (by kernel_rfl) (by kernel_rfl) ?_
  refine AWp.cond (decide ((0 : Int) < ((n1 : Nat) : Int))) rfl (fun hc10 => ?_) (fun hc10 => ?_)
  ·skip
   replace hc10 := of_decide_eq_true hc10
   refine AWp.skip ?_
   refine nextQ_normal ?_
   refine AWp.seq ?_
   refine AWp.block ?_
   let a'21 : AO := (.box [(.p (.sl false 1 (L.map D.cInt))), (vI ((oneI L i2 ([0, 0, 1, 2] : List Int) : Nat) : Int))])
   let a'22 : AO := (.box [(vS (nth ([(ByteArray.mk #[112]), (ByteArray.mk #[113]), (ByteArray.mk #[114])] : List ByteArray) qs.length)), (.p (.sl true 0 [])), (vI (oneV L i2 ([0, 0, 1, 2] : List Int)))])
   refine AWp.s_dreg hGn hGk (by kernel_rfl) [.a, .a, .a, .m (some 54) ⟨[(53, a'18)], [(2001, (.arr 3 (qs.map D.Policy.cells)))], (vI ((qs.length : Nat) : Int)), [], []⟩, .m (some 55) ⟨[(51, (.p (.sl true 1 [[(pS (ByteArray.mk #[112]))], [(pS (ByteArray.mk #[113]))], [(pS (ByteArray.mk #[114]))]]))), (54, (vI ((qs.length : Nat) : Int)))], [], (.eptr [(pS (nth ([(ByteArray.mk #[112]), (ByteArray.mk #[113]), (ByteArray.mk #[114])] : List ByteArray) qs.length))]), [], []⟩, .a, .a, .a, .m (some 59) ⟨[(57, (.ref 1 0)), (58, (.p (.sl true 1 [[(pI 0)], [(pI 0)], [(pI 1)], [(pI 2)]])))], [(1, a'20)], (vI (oneV L i2 ([0, 0, 1, 2] : List Int))), [(1, a'21)], []⟩, .a, .a, .a] ⟨StepOK.p rfl rfl rfl (OpOK.lenOwn (e := 106) rfl rfl (by kernel_rfl) rfl (Nat.beq_refl _) (by rw [List.length_map])),
    StepOK.p rfl rfl rfl (OpOK.indexP (e := 9) rfl (by kernel_rfl) (by kernel_rfl) rfl rfl rfl (map_nth (l := ([(ByteArray.mk #[112]), (ByteArray.mk #[113]), (ByteArray.mk #[114])] : List ByteArray)) (f := D.cStr) (by simp only [List.length_cons, List.length_nil]; omega))),
    StepOK.p rfl rfl rfl (OpOK.call rfl (by kernel_rfl) rfl (made_One L i2 ([0, 0, 1, 2] : List Int) true hL (by repeat (first | assumption | exact Nat.zero_le _ | apply nextI_le | apply oneI_le | apply targetI_le | apply teamI_le | apply stepI_le | apply policyI_le)) (by simp only [List.length_cons, List.length_nil]; omega)) (by kernel_rfl)), trivial⟩ [(0, (.ref 1 0)), (2, (.ref 1002 0)), (3, (.ref 1003 0)), (6, (vI ((n1 : Nat) : Int))), (7, (.ref 1007 0))] [(1003, a'19), (2001, (.arr 3 (qs.map D.Policy.cells))), (1, a'21), (1002, a'2), (1007, a'22)] (by kernel_rfl) (by kernel_rfl) (by kernel_rfl) ?_
   refine AWp.seq ?_
   have hf11 := nextN_lt L (oneI L i2 ([0, 0, 1, 2] : List Int)) 3 (by omega)
   let a'23 : AO := (.box [(.p (.sl false 1 (L.map D.cInt))), (vI ((nextI L (oneI L i2 ([0, 0, 1, 2] : List Int)) 3 : Nat) : Int))])
   refine AWp.s_reg hGn hGk [.a, .m (some 62) ⟨[(61, (.ref 1 0))], [(1, a'21)], (vI ((nextN L (oneI L i2 ([0, 0, 1, 2] : List Int)) 3 : Nat) : Int)), [(1, a'23)], []⟩, .m (some 63) ⟨[(62, (vI ((nextN L (oneI L i2 ([0, 0, 1, 2] : List Int)) 3 : Nat) : Int)))], [], (vI ((1 + (nextN L (oneI L i2 ([0, 0, 1, 2] : List Int)) 3) : Nat) : Int)), [], []⟩, .a] ⟨StepOK.p rfl rfl rfl (OpOK.call rfl (by kernel_rfl) rfl (made_Next L (oneI L i2 ([0, 0, 1, 2] : List Int)) 3 hL (by repeat (first | assumption | exact Nat.zero_le _ | apply nextI_le | apply oneI_le | apply targetI_le | apply teamI_le | apply stepI_le | apply policyI_le)) (by omega)) (by kernel_rfl)),
    StepOK.p rfl rfl rfl (OpOK.add rfl rfl rfl (by rw [IntWalk.i64_in _ ⟨by omega, by omega⟩]; omega)), trivial⟩ [(0, (.ref 1 0)), (2, (.ref 1002 0)), (3, (.ref 1003 0)), (6, (vI ((n1 : Nat) : Int))), (7, (.ref 1007 0)), (8, (vI ((1 + (nextN L (oneI L i2 ([0, 0, 1, 2] : List Int)) 3) : Nat) : Int)))] [(1003, a'19), (2001, (.arr 3 (qs.map D.Policy.cells))), (1, a'23), (1002, a'2), (1007, a'22)] (by kernel_rfl) (by kernel_rfl) ?_
   refine AWp.block ?_
   refine AWp.weaken (mk [(0, (.ref 1 0)), (2, (.ref 1002 0)), (3, (.ref 1003 0)), (6, (vI ((n1 : Nat) : Int))), (7, (.ref 1007 0)), (8, (vI ((1 + (nextN L (oneI L i2 ([0, 0, 1, 2] : List Int)) 3) : Nat) : Int)))] [(1007, a'22), (1003, a'19), (2001, (.arr 3 (qs.map D.Policy.cells))), (1, a'23), (1002, a'2)]) (Weak.sub' hGk (by kernel_rfl)) ?_
   refine AWp.weaken (mk [(0, (.ref 1 0)), (2, (.ref 1002 0)), (3, (.ref 1003 0)), (6, (vI ((n1 : Nat) : Int))), (7, (.ref 1007 0)), (8, (vI ((1 + (nextN L (oneI L i2 ([0, 0, 1, 2] : List Int)) 3) : Nat) : Int)))] [(1007, (.box [(vS (nth ([(ByteArray.mk #[112]), (ByteArray.mk #[113]), (ByteArray.mk #[114])] : List ByteArray) qs.length)), (.own 2002 0), (vI (oneV L i2 ([0, 0, 1, 2] : List Int)))])), (2002, (.arr 3 [])), (1003, a'19), (2001, (.arr 3 (qs.map D.Policy.cells))), (1, a'23), (1002, a'2)]) (Weak.thawCell (j := 1) (es0 := 0) (by kernel_rfl) rfl rfl (by kernel_rfl) (by kernel_rfl) rfl) ?_
   refine AWp.loop (fun m s => ∃ n2, ∃ (ss : List D.PolicyStep), ∃ i3, s = (mk [(0, (.ref 1 0)), (2, (.ref 1002 0)), (3, (.ref 1003 0)), (6, (vI ((n1 : Nat) : Int))), (7, (.ref 1007 0)), (8, (vI ((n2 : Nat) : Int)))] [(1007, (.box [(vS (nth ([(ByteArray.mk #[112]), (ByteArray.mk #[113]), (ByteArray.mk #[114])] : List ByteArray) qs.length)), (.own 2002 ((ss.map D.PolicyStep.cells).length)), (vI (oneV L i2 ([0, 0, 1, 2] : List Int)))])), (2002, (.arr 3 (ss.map D.PolicyStep.cells))), (1003, (.box [(.p (.sl false 2 (ts.map D.Team.cells))), (.own 2001 ((qs.map D.Policy.cells).length))])), (2001, (.arr 3 (qs.map D.Policy.cells))), (1, (.box [(.p (.sl false 1 (L.map D.cInt))), (vI ((i3 : Nat) : Int))])), (1002, (.box [(.p (.sl true 0 [])), (.p (.sl true 0 []))]))]) ∧ (ss.length + n2 ≤ 3) ∧ (i3 ≤ L.length) ∧ (steps L ts.length n2 ss i3 = policyS L ts.length i2) ∧ m = n2)
    ⟨_, (1 + nextN L (oneI L i2 [0, 0, 1, 2]) 3), ([]), (nextI L (oneI L i2 [0, 0, 1, 2]) 3), rfl, (by have := nextN_lt L (oneI L i2 [0, 0, 1, 2]) 3 (by omega); simp only [List.length_nil]; omega), (by repeat (first | assumption | exact Nat.zero_le _ | apply nextI_le | apply oneI_le | apply targetI_le | apply teamI_le | apply stepI_le | apply policyI_le)), rfl, rfl⟩ ?_
   rintro mm12 s ⟨n2, ss, i3, rfl, hb2, hi3, heq3, hmm12⟩
   refine AWp.seq ?_
   let a'24 : AV := (.own 2002 ((ss.map D.PolicyStep.cells).length))
   let a'25 : AO := (.box [(vS (nth ([(ByteArray.mk #[112]), (ByteArray.mk #[113]), (ByteArray.mk #[114])] : List ByteArray) qs.length)), a'24, (vI (oneV L i2 ([0, 0, 1, 2] : List Int)))])
   let a'26 : AO := (.arr 3 (ss.map D.PolicyStep.cells))
   let a'27 : AO := (.box [(.p (.sl false 1 (L.map D.cInt))), (vI ((i3 : Nat) : Int))])
   refine AWp.s_reg hGn hGk (aa 2) (Man.aa _ _) [(0, (.ref 1 0)), (2, (.ref 1002 0)), (3, (.ref 1003 0)), (6, (vI ((n1 : Nat) : Int))), (7, (.ref 1007 0)), (8, (vI ((n2 : Nat) : Int))), (65, (vB (decide ((0 : Int) < ((n2 : Nat) : Int)))))] [(1007, a'25), (2002, a'26), (1003, a'19), (2001, (.arr 3 (qs.map D.Policy.cells))), (1, a'27), (1002, a'2)] (by kernel_rfl) (by kernel_rfl) ?_
   refine AWp.cond (decide ((0 : Int) < ((n2 : Nat) : Int))) rfl (fun hc13 => ?_) (fun hc13 => ?_)
   ·skip
    replace hc13 := of_decide_eq_true hc13
    refine AWp.skip ?_
    refine nextQ_normal ?_
    refine AWp.seq ?_
    refine AWp.block ?_
    have hf14 := nextN_lt L (oneI L i3 ([0, 60, 300, 600, 900] : List Int)) 2 (by omega)
    let a'28 : AO := (.box [(.p (.sl false 1 (L.map D.cInt))), (vI ((nextI L (oneI L i3 ([0, 60, 300, 600, 900] : List Int)) 2 : Nat) : Int))])
    let a'29 : AO := (.box [(vI (oneV L i3 ([0, 60, 300, 600, 900] : List Int))), (vB (decide (((nextN L (oneI L i3 ([0, 60, 300, 600, 900] : List Int)) 2 : Nat) : Int) = (0 : Int)))), (.p (.sl true 0 []))])
    refine AWp.s_reg hGn hGk [.a, .a, .m (some 70) ⟨[(68, (.ref 1 0)), (69, (.p (.sl true 1 [[(pI 0)], [(pI 60)], [(pI 300)], [(pI 600)], [(pI 900)]])))], [(1, a'27)], (vI (oneV L i3 ([0, 60, 300, 600, 900] : List Int))), [(1, (.box [(.p (.sl false 1 (L.map D.cInt))), (vI ((oneI L i3 ([0, 60, 300, 600, 900] : List Int) : Nat) : Int))]))], []⟩, .a, .m (some 72) ⟨[(71, (.ref 1 0))], [(1, (.box [(.p (.sl false 1 (L.map D.cInt))), (vI ((oneI L i3 ([0, 60, 300, 600, 900] : List Int) : Nat) : Int))]))], (vI ((nextN L (oneI L i3 ([0, 60, 300, 600, 900] : List Int)) 2 : Nat) : Int)), [(1, a'28)], []⟩, .a, .a, .a, .a] ⟨StepOK.p rfl rfl rfl (OpOK.call rfl (by kernel_rfl) rfl (made_One L i3 ([0, 60, 300, 600, 900] : List Int) true hL (by repeat (first | assumption | exact Nat.zero_le _ | apply nextI_le | apply oneI_le | apply targetI_le | apply teamI_le | apply stepI_le | apply policyI_le)) (by simp only [List.length_cons, List.length_nil]; omega)) (by kernel_rfl)),
     StepOK.p rfl rfl rfl (OpOK.call rfl (by kernel_rfl) rfl (made_Next L (oneI L i3 ([0, 60, 300, 600, 900] : List Int)) 2 hL (by repeat (first | assumption | exact Nat.zero_le _ | apply nextI_le | apply oneI_le | apply targetI_le | apply teamI_le | apply stepI_le | apply policyI_le)) (by omega)) (by kernel_rfl)), trivial⟩ [(0, (.ref 1 0)), (2, (.ref 1002 0)), (3, (.ref 1003 0)), (6, (vI ((n1 : Nat) : Int))), (7, (.ref 1007 0)), (8, (vI ((n2 : Nat) : Int))), (9, (.ref 1009 0))] [(1007, a'25), (2002, a'26), (1003, a'19), (2001, (.arr 3 (qs.map D.Policy.cells))), (1, a'28), (1002, a'2), (1009, a'29)] (by kernel_rfl) (by kernel_rfl) ?_
    refine AWp.seq ?_
    have hf15 := nextN_lt L (nextI L (oneI L i3 ([0, 60, 300, 600, 900] : List Int)) 2) 3 (by omega)
    let a'30 : AO := (.box [(.p (.sl false 1 (L.map D.cInt))), (vI ((nextI L (nextI L (oneI L i3 ([0, 60, 300, 600, 900] : List Int)) 2) 3 : Nat) : Int))])
    refine AWp.s_reg hGn hGk [.a, .m (some 76) ⟨[(75, (.ref 1 0))], [(1, a'28)], (vI ((nextN L (nextI L (oneI L i3 ([0, 60, 300, 600, 900] : List Int)) 2) 3 : Nat) : Int)), [(1, a'30)], []⟩, .a] ⟨StepOK.p rfl rfl rfl (OpOK.call rfl (by kernel_rfl) rfl (made_Next L (nextI L (oneI L i3 ([0, 60, 300, 600, 900] : List Int)) 2) 3 hL (by repeat (first | assumption | exact Nat.zero_le _ | apply nextI_le | apply oneI_le | apply targetI_le | apply teamI_le | apply stepI_le | apply policyI_le)) (by omega)) (by kernel_rfl)), trivial⟩ [(0, (.ref 1 0)), (2, (.ref 1002 0)), (3, (.ref 1003 0)), (6, (vI ((n1 : Nat) : Int))), (7, (.ref 1007 0)), (8, (vI ((n2 : Nat) : Int))), (9, (.ref 1009 0)), (10, (vI ((nextN L (nextI L (oneI L i3 ([0, 60, 300, 600, 900] : List Int)) 2) 3 : Nat) : Int)))] [(1007, a'25), (2002, a'26), (1003, a'19), (2001, (.arr 3 (qs.map D.Policy.cells))), (1, a'30), (1002, a'2), (1009, a'29)] (by kernel_rfl) (by kernel_rfl) ?_
    refine AWp.block ?_
    refine AWp.weaken (mk [(0, (.ref 1 0)), (2, (.ref 1002 0)), (3, (.ref 1003 0)), (6, (vI ((n1 : Nat) : Int))), (7, (.ref 1007 0)), (8, (vI ((n2 : Nat) : Int))), (9, (.ref 1009 0)), (10, (vI ((nextN L (nextI L (oneI L i3 ([0, 60, 300, 600, 900] : List Int)) 2) 3 : Nat) : Int)))] [(1009, a'29), (1007, a'25), (2002, a'26), (1003, a'19), (2001, (.arr 3 (qs.map D.Policy.cells))), (1, a'30), (1002, a'2)]) (Weak.sub' hGk (by kernel_rfl)) ?_
    refine AWp.weaken (mk [(0, (.ref 1 0)), (2, (.ref 1002 0)), (3, (.ref 1003 0)), (6, (vI ((n1 : Nat) : Int))), (7, (.ref 1007 0)), (8, (vI ((n2 : Nat) : Int))), (9, (.ref 1009 0)), (10, (vI ((nextN L (nextI L (oneI L i3 ([0, 60, 300, 600, 900] : List Int)) 2) 3 : Nat) : Int)))] [(1009, (.box [(vI (oneV L i3 ([0, 60, 300, 600, 900] : List Int))), (vB (decide (((nextN L (oneI L i3 ([0, 60, 300, 600, 900] : List Int)) 2 : Nat) : Int) = (0 : Int)))), (.own 2003 0)])), (2003, (.arr 2 [])), (1007, a'25), (2002, a'26), (1003, a'19), (2001, (.arr 3 (qs.map D.Policy.cells))), (1, a'30), (1002, a'2)]) (Weak.thawCell (j := 2) (es0 := 0) (by kernel_rfl) rfl rfl (by kernel_rfl) (by kernel_rfl) rfl) ?_
    refine AWp.loop (fun m s => ∃ n3, ∃ (tt : List D.Target), ∃ i4, s = (mk [(0, (.ref 1 0)), (2, (.ref 1002 0)), (3, (.ref 1003 0)), (6, (vI ((n1 : Nat) : Int))), (7, (.ref 1007 0)), (8, (vI ((n2 : Nat) : Int))), (9, (.ref 1009 0)), (10, (vI ((n3 : Nat) : Int)))] [(1009, (.box [(vI (oneV L i3 ([0, 60, 300, 600, 900] : List Int))), (vB (decide (((nextN L (oneI L i3 ([0, 60, 300, 600, 900] : List Int)) 2 : Nat) : Int) = (0 : Int)))), (.own 2003 ((tt.map D.Target.cells).length))])), (2003, (.arr 2 (tt.map D.Target.cells))), (1007, (.box [(vS (nth ([(ByteArray.mk #[112]), (ByteArray.mk #[113]), (ByteArray.mk #[114])] : List ByteArray) qs.length)), (.own 2002 ((ss.map D.PolicyStep.cells).length)), (vI (oneV L i2 ([0, 0, 1, 2] : List Int)))])), (2002, (.arr 3 (ss.map D.PolicyStep.cells))), (1003, (.box [(.p (.sl false 2 (ts.map D.Team.cells))), (.own 2001 ((qs.map D.Policy.cells).length))])), (2001, (.arr 3 (qs.map D.Policy.cells))), (1, (.box [(.p (.sl false 1 (L.map D.cInt))), (vI ((i4 : Nat) : Int))])), (1002, (.box [(.p (.sl true 0 [])), (.p (.sl true 0 []))]))]) ∧ (tt.length + n3 ≤ 2) ∧ (i4 ≤ L.length) ∧ (targets L ts.length n3 tt i4 = stepT L ts.length i3) ∧ m = n3)
     ⟨_, (nextN L (nextI L (oneI L i3 [0, 60, 300, 600, 900]) 2) 3), ([]), (nextI L (nextI L (oneI L i3 [0, 60, 300, 600, 900]) 2) 3), rfl, (by have := nextN_lt L (nextI L (oneI L i3 [0, 60, 300, 600, 900]) 2) 3 (by omega); simp only [List.length_nil]; omega), (by repeat (first | assumption | exact Nat.zero_le _ | apply nextI_le | apply oneI_le | apply targetI_le | apply teamI_le | apply stepI_le | apply policyI_le)), rfl, rfl⟩ ?_
    rintro mm16 s ⟨n3, tt, i4, rfl, hb3, hi4, heq4, hmm16⟩
    refine AWp.seq ?_
    let a'31 : AV := (.own 2003 ((tt.map D.Target.cells).length))
    let a'32 : AO := (.box [(vI (oneV L i3 ([0, 60, 300, 600, 900] : List Int))), (vB (decide (((nextN L (oneI L i3 ([0, 60, 300, 600, 900] : List Int)) 2 : Nat) : Int) = (0 : Int)))), a'31])
    let a'33 : AO := (.box [(.p (.sl false 1 (L.map D.cInt))), (vI ((i4 : Nat) : Int))])
    refine AWp.s_reg hGn hGk (aa 2) (Man.aa _ _) [(0, (.ref 1 0)), (2, (.ref 1002 0)), (3, (.ref 1003 0)), (6, (vI ((n1 : Nat) : Int))), (7, (.ref 1007 0)), (8, (vI ((n2 : Nat) : Int))), (9, (.ref 1009 0)), (10, (vI ((n3 : Nat) : Int))), (78, (vB (decide ((0 : Int) < ((n3 : Nat) : Int)))))] [(1009, a'32), (2003, (.arr 2 (tt.map D.Target.cells))), (1007, a'25), (2002, a'26), (1003, a'19), (2001, (.arr 3 (qs.map D.Policy.cells))), (1, a'33), (1002, a'2)] (by kernel_rfl) (by kernel_rfl) ?_
    refine AWp.cond (decide ((0 : Int) < ((n3 : Nat) : Int))) rfl (fun hc17 => ?_) (fun hc17 => ?_)
    ·skip
     replace hc17 := of_decide_eq_true hc17
     refine AWp.skip ?_
     refine nextQ_normal ?_
     refine AWp.seq ?_
     refine AWp.block ?_
     refine AWp.dreg' hGn hGk (by kernel_rfl) [.a, .a, .a, .a, .m (some 85) ⟨[(83, (.ref 1 0)), (84, (.agg [(.p (.sl false 2 (ts.map D.Team.cells))), (.own 2001 ((qs.map D.Policy.cells).length))]))], [(1, (.box [(.p (.sl false 1 (L.map D.cInt))), (vI ((i4 : Nat) : Int))]))], (.agg [(vI ((target L i4 ts.length).Kind)), (vI ((target L i4 ts.length).Index))]), [(1, (.box [(.p (.sl false 1 (L.map D.cInt))), (vI ((targetI L i4 ts.length : Nat) : Int))]))], []⟩, .a, .m (some 87) ⟨[(82, (.own 2003 ((tt.map D.Target.cells).length))), (86, (.p (.sl true 2 [[(pI ((target L i4 ts.length).Kind)), (pI ((target L i4 ts.length).Index))]])))], [(2003, (.arr 2 (tt.map D.Target.cells)))], (.own 2003 (((tt ++ [(target L i4 ts.length)]).map D.Target.cells).length)), [(2003, (.arr 2 ((tt ++ [(target L i4 ts.length)]).map D.Target.cells)))], []⟩, .a, .a] ⟨StepOK.p rfl rfl rfl (OpOK.call rfl (by kernel_rfl) rfl (Spec.argsLe (made_Target L i4 ts false hL (by repeat (first | assumption | exact Nat.zero_le _ | apply nextI_le | apply oneI_le | apply targetI_le | apply teamI_le | apply stepI_le | apply policyI_le)) (by omega)) (.cons (.refl _) (.cons (.agg (.cons (.refl _) (.cons (.any rfl (by intro cs h; cases h)) .nil))) .nil))) (by kernel_rfl)),
      StepOK.p rfl rfl rfl (OpOK.appendOwn (e := 113) (bytes := 16) rfl rfl (by kernel_rfl) (by kernel_rfl) rfl (Nat.beq_refl _) rfl (by rw [List.map_append]; rfl) rfl (by simp only [List.length_map, List.length_cons, List.length_nil]; omega) (by simp only [List.length_map, List.length_cons, List.length_nil]; omega)), trivial⟩ [(0, (.ref 1 0)), (2, (.ref 1002 0)), (3, (.ref 1003 0)), (6, (vI ((n1 : Nat) : Int))), (7, (.ref 1007 0)), (8, (vI ((n2 : Nat) : Int))), (9, (.ref 1009 0)), (10, (vI ((n3 : Nat) : Int)))] [(1009, (.box [(vI (oneV L i3 ([0, 60, 300, 600, 900] : List Int))), (vB (decide (((nextN L (oneI L i3 ([0, 60, 300, 600, 900] : List Int)) 2 : Nat) : Int) = (0 : Int)))), (.own 2003 (((tt ++ [(target L i4 ts.length)]).map D.Target.cells).length))])), (2003, (.arr 2 ((tt ++ [(target L i4 ts.length)]).map D.Target.cells))), (1007, (.box [(vS (nth ([(ByteArray.mk #[112]), (ByteArray.mk #[113]), (ByteArray.mk #[114])] : List ByteArray) qs.length)), (.own 2002 ((ss.map D.PolicyStep.cells).length)), (vI (oneV L i2 ([0, 0, 1, 2] : List Int)))])), (2002, (.arr 3 (ss.map D.PolicyStep.cells))), (1003, (.box [(.p (.sl false 2 (ts.map D.Team.cells))), (.own 2001 ((qs.map D.Policy.cells).length))])), (2001, (.arr 3 (qs.map D.Policy.cells))), (1, (.box [(.p (.sl false 1 (L.map D.cInt))), (vI ((targetI L i4 ts.length : Nat) : Int))])), (1002, (.box [(.p (.sl true 0 [])), (.p (.sl true 0 []))]))] (by kernel_rfl) (by kernel_rfl) (by kernel_rfl) ?_
     refine blockQ_normal ?_
     refine nextQ_normal ?_
     refine AWp.reg' hGn hGk [.a, .m (some 80) ⟨[(79, (vI ((n3 : Nat) : Int)))], [], (vI ((n3 - 1 : Nat) : Int)), [], []⟩, .a] ⟨StepOK.p rfl rfl rfl (OpOK.sub rfl rfl rfl (by rw [IntWalk.i64_in _ ⟨by omega, by omega⟩]; omega)), trivial⟩ [(0, (.ref 1 0)), (2, (.ref 1002 0)), (3, (.ref 1003 0)), (6, (vI ((n1 : Nat) : Int))), (7, (.ref 1007 0)), (8, (vI ((n2 : Nat) : Int))), (9, (.ref 1009 0)), (10, (vI ((n3 - 1 : Nat) : Int)))] [(1009, (.box [(vI (oneV L i3 ([0, 60, 300, 600, 900] : List Int))), (vB (decide (((nextN L (oneI L i3 ([0, 60, 300, 600, 900] : List Int)) 2 : Nat) : Int) = (0 : Int)))), (.own 2003 (((tt ++ [(target L i4 ts.length)]).map D.Target.cells).length))])), (2003, (.arr 2 ((tt ++ [(target L i4 ts.length)]).map D.Target.cells))), (1007, a'25), (2002, a'26), (1003, a'19), (2001, (.arr 3 (qs.map D.Policy.cells))), (1, (.box [(.p (.sl false 1 (L.map D.cInt))), (vI ((targetI L i4 ts.length : Nat) : Int))])), (1002, a'2)] (by kernel_rfl) (by kernel_rfl) ?_
     refine nextQ_normal ⟨_, ?_, (n3 - 1), (tt ++ [(target L i4 ts.length)]), (targetI L i4 ts.length), rfl, (by simp only [List.length_append, List.length_cons, List.length_nil]; omega), (by repeat (first | assumption | exact Nat.zero_le _ | apply nextI_le | apply oneI_le | apply targetI_le | apply teamI_le | apply stepI_le | apply policyI_le)), (by rw [← heq4, targets_succ (n := n3) (by omega)]), rfl⟩
     · omega
    ·skip
     replace hc17 := of_decide_eq_false hc17
     refine AWp.weaken (mk [(0, (.ref 1 0)), (2, (.ref 1002 0)), (3, (.ref 1003 0)), (6, (vI ((n1 : Nat) : Int))), (7, (.ref 1007 0)), (8, (vI ((n2 : Nat) : Int))), (9, (.ref 1009 0))] [(1009, a'32), (2003, (.arr 2 (tt.map D.Target.cells))), (1007, a'25), (2002, a'26), (1003, a'19), (2001, (.arr 3 (qs.map D.Policy.cells))), (1, a'33), (1002, a'2)]) (Weak.sub' hGk (by kernel_rfl)) ?_
     refine AWp.exit ?_
     refine nextQ_exit ?_
     refine nextQ_exit ?_
     refine blockQ_exit ?_
     refine nextQ_normal ?_
     have heq6 : stepT L ts.length i3 = (tt, i4) := by rw [← heq4, show n3 = 0 from by omega]; rfl
     refine AWp.weaken (mk [(0, (.ref 1 0)), (2, (.ref 1002 0)), (3, (.ref 1003 0)), (6, (vI ((n1 : Nat) : Int))), (7, (.ref 1007 0)), (8, (vI ((n2 : Nat) : Int))), (9, (.ref 1009 0))] [(2003, (.arr 2 (tt.map D.Target.cells))), (1009, a'32), (1007, a'25), (2002, a'26), (1003, a'19), (2001, (.arr 3 (qs.map D.Policy.cells))), (1, a'33), (1002, a'2)]) (Weak.sub' hGk (by kernel_rfl)) ?_
     refine AWp.weaken (mk [(0, (.ref 1 0)), (2, (.ref 1002 0)), (3, (.ref 1003 0)), (6, (vI ((n1 : Nat) : Int))), (7, (.ref 1007 0)), (8, (vI ((n2 : Nat) : Int))), (9, (.ref 1009 0))] [(1009, (.box [(vI (oneV L i3 ([0, 60, 300, 600, 900] : List Int))), (vB (decide (((nextN L (oneI L i3 ([0, 60, 300, 600, 900] : List Int)) 2 : Nat) : Int) = (0 : Int)))), (.p (.sl false 2 (tt.map D.Target.cells)))])), (1007, a'25), (2002, a'26), (1003, a'19), (2001, (.arr 3 (qs.map D.Policy.cells))), (1, a'33), (1002, a'2)]) (Weak.freeze (n := 2003) (es := 2) (rows := (tt.map D.Target.cells)) (by rw [hGk]; decide) ⟨rfl, (.same rfl), ⟨rfl, (.same rfl), ⟨rfl, (.same rfl), ⟨rfl, (.same rfl), ⟨rfl, (.same rfl), ⟨rfl, (.same rfl), ⟨rfl, (.same rfl), trivial⟩⟩⟩⟩⟩⟩⟩ ⟨rfl, by decide, (.box (.cons (.same rfl) (.cons (.same rfl) (.cons .own .nil)))), ⟨rfl, by decide, (.same rfl), ⟨rfl, by decide, (.same rfl), ⟨rfl, by decide, (.same rfl), ⟨rfl, by decide, (.same rfl), ⟨rfl, by decide, (.same rfl), ⟨rfl, by decide, (.same rfl), trivial⟩⟩⟩⟩⟩⟩⟩) ?_
     let a'34 : AV := (.own 2002 (((ss ++ [(⟨oneV L i3 ([0, 60, 300, 600, 900] : List Int), decide (((nextN L (oneI L i3 ([0, 60, 300, 600, 900] : List Int)) 2 : Nat) : Int) = (0 : Int)), tt⟩ : D.PolicyStep)]).map D.PolicyStep.cells).length))
     let a'35 : AO := (.arr 3 ((ss ++ [(⟨oneV L i3 ([0, 60, 300, 600, 900] : List Int), decide (((nextN L (oneI L i3 ([0, 60, 300, 600, 900] : List Int)) 2 : Nat) : Int) = (0 : Int)), tt⟩ : D.PolicyStep)]).map D.PolicyStep.cells))
     refine AWp.reg' hGn hGk [.a, .a, .a, .a, .m (some 93) ⟨[(90, a'24), (92, (.p (.sl true 3 [[(pI (oneV L i3 ([0, 60, 300, 600, 900] : List Int))), (pB (decide (((nextN L (oneI L i3 ([0, 60, 300, 600, 900] : List Int)) 2 : Nat) : Int) = (0 : Int)))), (.sl false 2 (tt.map D.Target.cells))]])))], [(2002, a'26)], a'34, [(2002, a'35)], []⟩, .a, .a] ⟨StepOK.p rfl rfl rfl (OpOK.appendOwn (e := 103) (bytes := 40) rfl rfl (by kernel_rfl) (by kernel_rfl) rfl (Nat.beq_refl _) rfl (by rw [List.map_append]; rfl) rfl (by simp only [List.length_map, List.length_cons, List.length_nil]; omega) (by simp only [List.length_map, List.length_cons, List.length_nil]; omega)), trivial⟩ [(0, (.ref 1 0)), (2, (.ref 1002 0)), (3, (.ref 1003 0)), (6, (vI ((n1 : Nat) : Int))), (7, (.ref 1007 0)), (8, (vI ((n2 : Nat) : Int)))] [(1007, (.box [(vS (nth ([(ByteArray.mk #[112]), (ByteArray.mk #[113]), (ByteArray.mk #[114])] : List ByteArray) qs.length)), a'34, (vI (oneV L i2 ([0, 0, 1, 2] : List Int)))])), (2002, a'35), (1003, a'19), (2001, (.arr 3 (qs.map D.Policy.cells))), (1, a'33), (1002, a'2)] (by kernel_rfl) (by kernel_rfl) ?_
     refine blockQ_normal ?_
     refine nextQ_normal ?_
     refine AWp.reg' hGn hGk [.a, .m (some 67) ⟨[(66, (vI ((n2 : Nat) : Int)))], [], (vI ((n2 - 1 : Nat) : Int)), [], []⟩, .a] ⟨StepOK.p rfl rfl rfl (OpOK.sub rfl rfl rfl (by rw [IntWalk.i64_in _ ⟨by omega, by omega⟩]; omega)), trivial⟩ [(0, (.ref 1 0)), (2, (.ref 1002 0)), (3, (.ref 1003 0)), (6, (vI ((n1 : Nat) : Int))), (7, (.ref 1007 0)), (8, (vI ((n2 - 1 : Nat) : Int)))] [(1007, (.box [(vS (nth ([(ByteArray.mk #[112]), (ByteArray.mk #[113]), (ByteArray.mk #[114])] : List ByteArray) qs.length)), a'34, (vI (oneV L i2 ([0, 0, 1, 2] : List Int)))])), (2002, a'35), (1003, a'19), (2001, (.arr 3 (qs.map D.Policy.cells))), (1, a'33), (1002, a'2)] (by kernel_rfl) (by kernel_rfl) ?_
     refine nextQ_normal ⟨_, ?_, (n2 - 1), (ss ++ [(⟨oneV L i3 ([0, 60, 300, 600, 900] : List Int), decide (((nextN L (oneI L i3 ([0, 60, 300, 600, 900] : List Int)) 2 : Nat) : Int) = (0 : Int)), tt⟩ : D.PolicyStep)]), i4, rfl, (by simp only [List.length_append, List.length_cons, List.length_nil]; omega), hi4, (by rw [← heq3, steps_succ (n := n2) (by omega)]; simp only [stepP, stepI, heq6]), rfl⟩
     · omega
   ·skip
    replace hc13 := of_decide_eq_false hc13
    refine AWp.weaken (mk [(0, (.ref 1 0)), (2, (.ref 1002 0)), (3, (.ref 1003 0)), (6, (vI ((n1 : Nat) : Int))), (7, (.ref 1007 0))] [(1007, a'25), (2002, a'26), (1003, a'19), (2001, (.arr 3 (qs.map D.Policy.cells))), (1, a'27), (1002, a'2)]) (Weak.sub' hGk (by kernel_rfl)) ?_
    refine AWp.exit ?_
    refine nextQ_exit ?_
    refine nextQ_exit ?_
    refine blockQ_exit ?_
    refine nextQ_normal ?_
    have heq5 : policyS L ts.length i2 = (ss, i3) := by rw [← heq3, show n2 = 0 from by omega]; rfl
    refine AWp.weaken (mk [(0, (.ref 1 0)), (2, (.ref 1002 0)), (3, (.ref 1003 0)), (6, (vI ((n1 : Nat) : Int))), (7, (.ref 1007 0))] [(2002, a'26), (1007, a'25), (1003, a'19), (2001, (.arr 3 (qs.map D.Policy.cells))), (1, a'27), (1002, a'2)]) (Weak.sub' hGk (by kernel_rfl)) ?_
    refine AWp.weaken (mk [(0, (.ref 1 0)), (2, (.ref 1002 0)), (3, (.ref 1003 0)), (6, (vI ((n1 : Nat) : Int))), (7, (.ref 1007 0))] [(1007, (.box [(vS (nth ([(ByteArray.mk #[112]), (ByteArray.mk #[113]), (ByteArray.mk #[114])] : List ByteArray) qs.length)), (.p (.sl false 3 (ss.map D.PolicyStep.cells))), (vI (oneV L i2 ([0, 0, 1, 2] : List Int)))])), (1003, a'19), (2001, (.arr 3 (qs.map D.Policy.cells))), (1, a'27), (1002, a'2)]) (Weak.freeze (n := 2002) (es := 3) (rows := (ss.map D.PolicyStep.cells)) (by rw [hGk]; decide) ⟨rfl, (.same rfl), ⟨rfl, (.same rfl), ⟨rfl, (.same rfl), ⟨rfl, (.same rfl), ⟨rfl, (.same rfl), trivial⟩⟩⟩⟩⟩ ⟨rfl, by decide, (.box (.cons (.same rfl) (.cons .own (.cons (.same rfl) .nil)))), ⟨rfl, by decide, (.same rfl), ⟨rfl, by decide, (.same rfl), ⟨rfl, by decide, (.same rfl), ⟨rfl, by decide, (.same rfl), trivial⟩⟩⟩⟩⟩) ?_
    let a'36 : AV := (.own 2001 (((qs ++ [(⟨nth ([(ByteArray.mk #[112]), (ByteArray.mk #[113]), (ByteArray.mk #[114])] : List ByteArray) qs.length, ss, oneV L i2 ([0, 0, 1, 2] : List Int)⟩ : D.Policy)]).map D.Policy.cells).length))
    let a'37 : AO := (.arr 3 ((qs ++ [(⟨nth ([(ByteArray.mk #[112]), (ByteArray.mk #[113]), (ByteArray.mk #[114])] : List ByteArray) qs.length, ss, oneV L i2 ([0, 0, 1, 2] : List Int)⟩ : D.Policy)]).map D.Policy.cells))
    refine AWp.reg' hGn hGk [.a, .a, .a, .a, .m (some 99) ⟨[(96, a'18), (98, (.p (.sl true 3 [[(pS (nth ([(ByteArray.mk #[112]), (ByteArray.mk #[113]), (ByteArray.mk #[114])] : List ByteArray) qs.length)), (.sl false 3 (ss.map D.PolicyStep.cells)), (pI (oneV L i2 ([0, 0, 1, 2] : List Int)))]])))], [(2001, (.arr 3 (qs.map D.Policy.cells)))], a'36, [(2001, a'37)], []⟩, .a, .a] ⟨StepOK.p rfl rfl rfl (OpOK.appendOwn (e := 106) (bytes := 48) rfl rfl (by kernel_rfl) (by kernel_rfl) rfl (Nat.beq_refl _) rfl (by rw [List.map_append]; rfl) rfl (by simp only [List.length_map, List.length_cons, List.length_nil]; omega) (by simp only [List.length_map, List.length_cons, List.length_nil]; omega)), trivial⟩ [(0, (.ref 1 0)), (2, (.ref 1002 0)), (3, (.ref 1003 0)), (6, (vI ((n1 : Nat) : Int)))] [(1003, (.box [a'16, a'36])), (2001, a'37), (1, a'27), (1002, a'2)] (by kernel_rfl) (by kernel_rfl) ?_
    refine blockQ_normal ?_
    refine nextQ_normal ?_
    refine AWp.reg' hGn hGk [.a, .m (some 50) ⟨[(49, (vI ((n1 : Nat) : Int)))], [], (vI ((n1 - 1 : Nat) : Int)), [], []⟩, .a] ⟨StepOK.p rfl rfl rfl (OpOK.sub rfl rfl rfl (by rw [IntWalk.i64_in _ ⟨by omega, by omega⟩]; omega)), trivial⟩ [(0, (.ref 1 0)), (2, (.ref 1002 0)), (3, (.ref 1003 0)), (6, (vI ((n1 - 1 : Nat) : Int)))] [(1003, (.box [a'16, a'36])), (2001, a'37), (1, a'27), (1002, a'2)] (by kernel_rfl) (by kernel_rfl) ?_
    refine nextQ_normal ⟨_, ?_, (n1 - 1), (qs ++ [(⟨nth ([(ByteArray.mk #[112]), (ByteArray.mk #[113]), (ByteArray.mk #[114])] : List ByteArray) qs.length, ss, oneV L i2 ([0, 0, 1, 2] : List Int)⟩ : D.Policy)]), i3, rfl, (by simp only [List.length_append, List.length_cons, List.length_nil]; omega), hi3, (by rw [← heq2, policies_succ (n := n1) (by omega)]; simp only [policyP, policyI, heq5]), rfl⟩
    · omega
  ·skip
   replace hc10 := of_decide_eq_false hc10
   refine AWp.weaken (mk [(2, (.ref 1002 0)), (3, (.ref 1003 0))] [(1003, a'19), (2001, (.arr 3 (qs.map D.Policy.cells))), (1, a'20), (1002, a'2)]) (Weak.sub' hGk (by kernel_rfl)) ?_
   refine AWp.exit ?_
   refine nextQ_exit ?_
   refine nextQ_exit ?_
   refine blockQ_exit ?_
   refine nextQ_normal ?_
   have heq7 : bookP L i = (qs, i2) := by rw [← heq2, show n1 = 0 from by omega]; rfl
   refine AWp.weaken (mk [(2, (.ref 1002 0)), (3, (.ref 1003 0))] [(2001, (.arr 3 (qs.map D.Policy.cells))), (1003, a'19), (1, a'20), (1002, a'2)]) (Weak.sub' hGk (by kernel_rfl)) ?_
   refine AWp.weaken (mk [(2, (.ref 1002 0)), (3, (.ref 1003 0))] [(1003, (.box [a'16, (.p (.sl false 3 (qs.map D.Policy.cells)))])), (1, a'20), (1002, a'2)]) (Weak.freeze (n := 2001) (es := 3) (rows := (qs.map D.Policy.cells)) (by rw [hGk]; decide) ⟨rfl, (.same rfl), ⟨rfl, (.same rfl), trivial⟩⟩ ⟨rfl, by decide, (.box (.cons (.same rfl) (.cons .own .nil))), ⟨rfl, by decide, (.same rfl), ⟨rfl, by decide, (.same rfl), trivial⟩⟩⟩) ?_
   refine AWp.s_reg hGn hGk (aa 2) (Man.aa _ _) [(2, (.ref 1002 0))] [(1, a'20), (1002, (.box [a'16, (.p (.sl false 3 (qs.map D.Policy.cells)))]))] (by kernel_rfl) (by kernel_rfl) ?_
   refine AWp.ret ?_
   refine fin_of (.inr rfl) (v := (.agg [(.p (.sl false 2 (ts.map D.Team.cells))), (.p (.sl false 3 (qs.map D.Policy.cells)))])) (Res.agg rfl rfl rfl (by kernel_rfl) (by kernel_rfl)) (h' := [(1, (.box [(.p (.sl false 1 (L.map D.cInt))), (vI ((i2 : Nat) : Int))]))]) rfl rfl ?_
   exact ⟨by simp only [book, heq1, heq7], by simp only [bookI, heq7]⟩
theorem sane_0 : ((offset (⟨(ByteArray.mk #[112]), ([(⟨(300 : Int), false, ([] : List D.Target)⟩ : D.PolicyStep), (⟨(600 : Int), false, ([] : List D.Target)⟩ : D.PolicyStep)] : List D.PolicyStep), (1 : Int)⟩ : D.Policy) 3).2) = true := by decide
theorem sane_1 : (decide (((offset (⟨(ByteArray.mk #[112]), ([(⟨(300 : Int), false, ([] : List D.Target)⟩ : D.PolicyStep), (⟨(600 : Int), false, ([] : List D.Target)⟩ : D.PolicyStep)] : List D.PolicyStep), (1 : Int)⟩ : D.Policy) 3).1) = (1200 : Int))) = true := by decide
theorem sane_2 : (decide (((offset (⟨(ByteArray.mk #[112]), ([(⟨(300 : Int), false, ([] : List D.Target)⟩ : D.PolicyStep), (⟨(600 : Int), false, ([] : List D.Target)⟩ : D.PolicyStep)] : List D.PolicyStep), (1 : Int)⟩ : D.Policy) (count (⟨(ByteArray.mk #[112]), ([(⟨(300 : Int), false, ([] : List D.Target)⟩ : D.PolicyStep), (⟨(600 : Int), false, ([] : List D.Target)⟩ : D.PolicyStep)] : List D.PolicyStep), (1 : Int)⟩ : D.Policy))).1) = (1800 : Int))) = true := by decide
theorem sane_3 : (decide (((started (⟨(ByteArray.mk #[112]), ([(⟨(300 : Int), false, ([] : List D.Target)⟩ : D.PolicyStep), (⟨(600 : Int), false, ([] : List D.Target)⟩ : D.PolicyStep)] : List D.PolicyStep), (1 : Int)⟩ : D.Policy) 300 : Nat) : Int) = (2 : Int))) = true := by decide
theorem sane_4 : (decide ((count (⟨(ByteArray.mk #[112]), ([(⟨(300 : Int), false, ([] : List D.Target)⟩ : D.PolicyStep), (⟨(600 : Int), false, ([] : List D.Target)⟩ : D.PolicyStep)] : List D.PolicyStep), (1 : Int)⟩ : D.Policy)) = (4 : Int))) = true := by decide
theorem law_sane  :
    SpecIs Tryz.prog 30 [] [] (vB true) [] := by
 refine Spec.intro Tryz.func30 rfl (by kernel_rfl) ?_
 intro Γ hGn hGk
 replace hGn : Γ.n = 33 := hGn
 replace hGk : Γ.names = [] := hGk
 refine AWp.weaken (mk [] []) (Weak.sub' hGk (by kernel_rfl)) ?_
 refine AWp.s_reg hGn hGk (aa 1) (Man.aa _ _) [] [] (by kernel_rfl) (by kernel_rfl) ?_
 refine AWp.s_reg hGn hGk (aa 6) (Man.aa _ _) [(1, (.ref 1001 0))] [(1001, (.box [(vS (ByteArray.mk #[112])), (.p (.sl true 3 [[(pI 300), (pB false), (.sl true 0 [])], [(pI 600), (pB false), (.sl true 0 [])]])), (vI 1)]))] (by kernel_rfl) (by kernel_rfl) ?_
 let a'1 : AV := (.p (.sl false 3 [[(pI 300), (pB false), (.sl false 2 [])], [(pI 600), (pB false), (.sl false 2 [])]]))
 refine AWp.weaken (mk [(1, (.ref 1001 0))] [(1001, (.box [(vS (ByteArray.mk #[112])), a'1, (vI 1)]))]) (Weak.le ⟨rfl, .refl _, trivial⟩ ⟨rfl, (.box (.cons (.refl _) (.cons (.p (PVle.sl (by simp) ⟨⟨PVle.refl _, ⟨PVle.refl _, ⟨(PVle.nil (by simp)), trivial⟩⟩⟩, ⟨⟨PVle.refl _, ⟨PVle.refl _, ⟨(PVle.nil (by simp)), trivial⟩⟩⟩, trivial⟩⟩)) (.cons (.refl _) .nil)))), trivial⟩) ?_
 let a'2 : AV := (.agg [(vS (ByteArray.mk #[112])), a'1, (vI 1)])
 refine AWp.s_reg hGn hGk [.a, .m (some 10) ⟨[(9, a'2)], [], (.tup [(vI ((offset (⟨(ByteArray.mk #[112]), ([(⟨(300 : Int), false, ([] : List D.Target)⟩ : D.PolicyStep), (⟨(600 : Int), false, ([] : List D.Target)⟩ : D.PolicyStep)] : List D.PolicyStep), (1 : Int)⟩ : D.Policy) 3).1)), (vB true)]), [], []⟩, .a, .a, .a, .a, .a] ⟨StepOK.p rfl rfl rfl (OpOK.call rfl (by kernel_rfl) rfl (by have hq := (pol_Offset (⟨(ByteArray.mk #[112]), ([(⟨(300 : Int), false, ([] : List D.Target)⟩ : D.PolicyStep), (⟨(600 : Int), false, ([] : List D.Target)⟩ : D.PolicyStep)] : List D.PolicyStep), (1 : Int)⟩ : D.Policy) 3 (by first | omega | decide)); rw [sane_0] at hq; exact hq) (by kernel_rfl)), trivial⟩ [(1, (.ref 1001 0)), (2, (vI ((offset (⟨(ByteArray.mk #[112]), ([(⟨(300 : Int), false, ([] : List D.Target)⟩ : D.PolicyStep), (⟨(600 : Int), false, ([] : List D.Target)⟩ : D.PolicyStep)] : List D.PolicyStep), (1 : Int)⟩ : D.Policy) 3).1))), (3, (vB true))] [(1001, (.box [(vS (ByteArray.mk #[112])), a'1, (vI 1)]))] (by kernel_rfl) (by kernel_rfl) ?_
 refine AWp.s_reg hGn hGk [.a, .a, .a, .m (some 16) ⟨[(15, (vI ((offset (⟨(ByteArray.mk #[112]), ([(⟨(300 : Int), false, ([] : List D.Target)⟩ : D.PolicyStep), (⟨(600 : Int), false, ([] : List D.Target)⟩ : D.PolicyStep)] : List D.PolicyStep), (1 : Int)⟩ : D.Policy) 3).1))), (14, (vB true))], [], (vB true), [], []⟩, .a, .a, .a, .m (some 20) ⟨[(19, a'2), (18, (vB true))], [], (vI ((offset (⟨(ByteArray.mk #[112]), ([(⟨(300 : Int), false, ([] : List D.Target)⟩ : D.PolicyStep), (⟨(600 : Int), false, ([] : List D.Target)⟩ : D.PolicyStep)] : List D.PolicyStep), (1 : Int)⟩ : D.Policy) (count (⟨(ByteArray.mk #[112]), ([(⟨(300 : Int), false, ([] : List D.Target)⟩ : D.PolicyStep), (⟨(600 : Int), false, ([] : List D.Target)⟩ : D.PolicyStep)] : List D.PolicyStep), (1 : Int)⟩ : D.Policy))).1)), [], []⟩, .m (some 21) ⟨[(20, (vI ((offset (⟨(ByteArray.mk #[112]), ([(⟨(300 : Int), false, ([] : List D.Target)⟩ : D.PolicyStep), (⟨(600 : Int), false, ([] : List D.Target)⟩ : D.PolicyStep)] : List D.PolicyStep), (1 : Int)⟩ : D.Policy) (count (⟨(ByteArray.mk #[112]), ([(⟨(300 : Int), false, ([] : List D.Target)⟩ : D.PolicyStep), (⟨(600 : Int), false, ([] : List D.Target)⟩ : D.PolicyStep)] : List D.PolicyStep), (1 : Int)⟩ : D.Policy))).1))), (18, (vB true))], [], (vB true), [], []⟩, .a, .a, .a, .m (some 25) ⟨[(24, a'2), (23, (vB true))], [], (vI ((started (⟨(ByteArray.mk #[112]), ([(⟨(300 : Int), false, ([] : List D.Target)⟩ : D.PolicyStep), (⟨(600 : Int), false, ([] : List D.Target)⟩ : D.PolicyStep)] : List D.PolicyStep), (1 : Int)⟩ : D.Policy) 300 : Nat) : Int)), [], []⟩, .m (some 26) ⟨[(25, (vI ((started (⟨(ByteArray.mk #[112]), ([(⟨(300 : Int), false, ([] : List D.Target)⟩ : D.PolicyStep), (⟨(600 : Int), false, ([] : List D.Target)⟩ : D.PolicyStep)] : List D.PolicyStep), (1 : Int)⟩ : D.Policy) 300 : Nat) : Int))), (23, (vB true))], [], (vB true), [], []⟩, .a, .a, .a, .m (some 30) ⟨[(29, a'2), (28, (vB true))], [], (vI (count (⟨(ByteArray.mk #[112]), ([(⟨(300 : Int), false, ([] : List D.Target)⟩ : D.PolicyStep), (⟨(600 : Int), false, ([] : List D.Target)⟩ : D.PolicyStep)] : List D.PolicyStep), (1 : Int)⟩ : D.Policy))), [], []⟩, .m (some 31) ⟨[(30, (vI (count (⟨(ByteArray.mk #[112]), ([(⟨(300 : Int), false, ([] : List D.Target)⟩ : D.PolicyStep), (⟨(600 : Int), false, ([] : List D.Target)⟩ : D.PolicyStep)] : List D.PolicyStep), (1 : Int)⟩ : D.Policy)))), (28, (vB true))], [], (vB true), [], []⟩, .a, .a] ⟨StepOK.g rfl rfl rfl rfl rfl (by simp) (OpOK.eqlI rfl rfl rfl sane_1),
  StepOK.g rfl rfl rfl rfl rfl (by simp) (OpOK.call rfl (by kernel_rfl) rfl (pol_End (⟨(ByteArray.mk #[112]), ([(⟨(300 : Int), false, ([] : List D.Target)⟩ : D.PolicyStep), (⟨(600 : Int), false, ([] : List D.Target)⟩ : D.PolicyStep)] : List D.PolicyStep), (1 : Int)⟩ : D.Policy) (by first | omega | decide)) (by kernel_rfl)),
  StepOK.g rfl rfl rfl rfl rfl (by simp) (OpOK.eqlI rfl rfl rfl sane_2),
  StepOK.g rfl rfl rfl rfl rfl (by simp) (OpOK.call rfl (by kernel_rfl) rfl (pol_Started (⟨(ByteArray.mk #[112]), ([(⟨(300 : Int), false, ([] : List D.Target)⟩ : D.PolicyStep), (⟨(600 : Int), false, ([] : List D.Target)⟩ : D.PolicyStep)] : List D.PolicyStep), (1 : Int)⟩ : D.Policy) 300 (by first | omega | decide)) (by kernel_rfl)),
  StepOK.g rfl rfl rfl rfl rfl (by simp) (OpOK.eqlI rfl rfl rfl sane_3),
  StepOK.g rfl rfl rfl rfl rfl (by simp) (OpOK.call rfl (by kernel_rfl) rfl (pol_Count (⟨(ByteArray.mk #[112]), ([(⟨(300 : Int), false, ([] : List D.Target)⟩ : D.PolicyStep), (⟨(600 : Int), false, ([] : List D.Target)⟩ : D.PolicyStep)] : List D.PolicyStep), (1 : Int)⟩ : D.Policy) (by first | omega | decide)) (by kernel_rfl)),
  StepOK.g rfl rfl rfl rfl rfl (by simp) (OpOK.eqlI rfl rfl rfl sane_4), trivial⟩ [(0, (vB true))] [] (by kernel_rfl) (by kernel_rfl) ?_
 refine AWp.ret ?_
 refine fin_of (.inr rfl) (v := (vB true)) (Res.tmp rfl rfl) (h' := []) rfl rfl ?_
 exact ⟨rfl, rfl⟩
end Go.Proofs.YtimfbibaoppfcaaGreatDoor
