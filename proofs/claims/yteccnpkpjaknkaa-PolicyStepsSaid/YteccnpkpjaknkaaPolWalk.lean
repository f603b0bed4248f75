/-
  The walks of package policy: counts and offsets; of the dice and their books. Printed by wip/gen/pol.py.
-/
import Derived.Test.YteccnpkpjaknkaaPolLaw
set_option maxRecDepth 100000
set_option linter.unusedSimpArgs false
set_option linter.unusedVariables false
namespace Go.Proofs.Yteccnpkpjaknkaa
open Go AM
theorem pol_in (n lo hi : Int) :
    SpecIs Try.prog 24 [(vI n), (vI lo), (vI hi)] [] (vB (inB n lo hi)) [] := by
 refine Spec.intro Try.func24 rfl (by kernel_rfl) ?_
 intro Γ hGn hGk
 replace hGn : Γ.n = 15 := hGn
 replace hGk : Γ.names = [] := hGk
 refine AWp.weaken (mk [(0, (vI n)), (1, (vI lo)), (2, (vI hi))] []) (Weak.sub' hGk (by kernel_rfl)) ?_
 refine AWp.s_region hGn hGk 
  [(some 6, ⟨[], [], (vB false), [], []⟩)]
  ⟨StepOK.p rfl rfl rfl (OpOK.assign rfl rfl), rfl⟩
  [(0, (vI n)), (1, (vI lo)), (2, (vI hi))]
  []
  (by kernel_rfl) ?_
 by_cases hs1 : lo ≤ n
 ·skip
  refine AWp.s_region hGn hGk 
   [(some 7, ⟨[(0, (vI n))], [], (vI n), [], []⟩),
   (some 8, ⟨[(1, (vI lo))], [], (vI lo), [], []⟩),
   (some 9, ⟨[(7, (vI n)), (8, (vI lo))], [], (vB true), [], []⟩),
   (some 10, ⟨[(9, (vB true))], [], (vB true), [], []⟩),
   (some 11, ⟨[(0, (vI n)), (10, (vB true))], [], (vI n), [], []⟩),
   (some 12, ⟨[(2, (vI hi)), (10, (vB true))], [], (vI hi), [], []⟩),
   (some 13, ⟨[(11, (vI n)), (12, (vI hi)), (10, (vB true))], [], (vB (decide (n ≤ hi))), [], []⟩),
   (some 14, ⟨[(10, (vB true)), (13, (vB (decide (n ≤ hi))))], [], (vB (decide (n ≤ hi))), [], []⟩),
   (some 6, ⟨[(14, (vB (decide (n ≤ hi))))], [], (vB (decide (n ≤ hi))), [], []⟩)]
   ⟨StepOK.p rfl rfl rfl (OpOK.move rfl rfl),
   StepOK.p rfl rfl rfl (OpOK.move rfl rfl),
   StepOK.p rfl rfl rfl (OpOK.geq rfl rfl rfl (decide_eq_true hs1)),
   StepOK.p rfl rfl rfl (OpOK.move rfl rfl),
   StepOK.g rfl rfl rfl rfl rfl (by simp) (OpOK.move rfl rfl),
   StepOK.g rfl rfl rfl rfl rfl (by simp) (OpOK.move rfl rfl),
   StepOK.g rfl rfl rfl rfl rfl (by simp) (OpOK.leq rfl rfl rfl rfl),
   StepOK.p rfl rfl rfl (OpOK.pickT rfl rfl rfl),
   StepOK.p rfl rfl rfl (OpOK.assign rfl rfl), rfl⟩
   [(6, (vB (decide (n ≤ hi))))]
   []
   (by kernel_rfl) ?_
  refine AWp.ret ?_
  refine fin_of (.inr rfl) (v := (vB (decide (n ≤ hi)))) (Res.tmp rfl rfl) (h' := []) rfl rfl ?_
  exact ⟨by simp [inB, *], rfl⟩
 ·skip
  refine AWp.s_region hGn hGk 
   [(some 7, ⟨[(0, (vI n))], [], (vI n), [], []⟩),
   (some 8, ⟨[(1, (vI lo))], [], (vI lo), [], []⟩),
   (some 9, ⟨[(7, (vI n)), (8, (vI lo))], [], (vB false), [], []⟩),
   (some 10, ⟨[(9, (vB false))], [], (vB false), [], []⟩),
   (some 11, ⟨[(10, (vB false))], [], (.tup []), [], []⟩),
   (some 12, ⟨[(10, (vB false))], [], (.tup []), [], []⟩),
   (some 13, ⟨[(10, (vB false))], [], (.tup []), [], []⟩),
   (some 14, ⟨[(10, (vB false))], [], (vB false), [], []⟩),
   (some 6, ⟨[(14, (vB false))], [], (vB false), [], []⟩)]
   ⟨StepOK.p rfl rfl rfl (OpOK.move rfl rfl),
   StepOK.p rfl rfl rfl (OpOK.move rfl rfl),
   StepOK.p rfl rfl rfl (OpOK.geq rfl rfl rfl (decide_eq_false hs1)),
   StepOK.p rfl rfl rfl (OpOK.move rfl rfl),
   StepOK.k rfl rfl rfl rfl rfl rfl,
   StepOK.k rfl rfl rfl rfl rfl rfl,
   StepOK.k rfl rfl rfl rfl rfl rfl,
   StepOK.p rfl rfl rfl (OpOK.pickF rfl rfl rfl),
   StepOK.p rfl rfl rfl (OpOK.assign rfl rfl), rfl⟩
   [(6, (vB false))]
   []
   (by kernel_rfl) ?_
  refine AWp.ret ?_
  refine fin_of (.inr rfl) (v := (vB false)) (Res.tmp rfl rfl) (h' := []) rfl rfl ?_
  exact ⟨by simp [inB, *], rfl⟩

theorem pol_Count (p : D.Policy) (hl : p.Steps.length ≤ 1000000) :
    SpecIs Try.prog 10 [(.agg [(vS p.Name), (.p (.sl false 3 (p.Steps.map D.PolicyStep.cells))), (vI p.Repeat)])] [] (vI (count p)) [] := by
 refine Spec.intro Try.func10 rfl (by kernel_rfl) ?_
 intro Γ hGn hGk
 replace hGn : Γ.n = 20 := hGn
 replace hGk : Γ.names = [] := hGk
 refine AWp.weaken (mk [(0, (.agg [(vS p.Name), (.p (.sl false 3 (p.Steps.map D.PolicyStep.cells))), (vI p.Repeat)]))] []) (Weak.sub' hGk (by kernel_rfl)) ?_
 refine AWp.s_region hGn hGk 
  [(some 1, ⟨[(0, (.agg [(vS p.Name), (.p (.sl false 3 (p.Steps.map D.PolicyStep.cells))), (vI p.Repeat)]))], [], (.ref 1001 0), [(1001, (.box [(vS p.Name), (.p (.sl false 3 (p.Steps.map D.PolicyStep.cells))), (vI p.Repeat)]))], [1001]⟩),
  (some 2, ⟨[], [], (vI 0), [], []⟩)]
  ⟨StepOK.p rfl rfl rfl (OpOK.box rfl rfl rfl),
  StepOK.p rfl rfl rfl (OpOK.assign rfl rfl), rfl⟩
  [(1, (.ref 1001 0))]
  [(1001, (.box [(vS p.Name), (.p (.sl false 3 (p.Steps.map D.PolicyStep.cells))), (vI p.Repeat)]))]
  (by kernel_rfl) ?_
 refine AWp.seq ?_
 cases hs1 : inB p.Repeat 0 8
 ·skip
  have ha2 := inB_false hs1
  refine AWp.s_region hGn hGk 
   [(some 3, ⟨[(1, (.ref 1001 0))], [(1001, (.box [(vS p.Name), (.p (.sl false 3 (p.Steps.map D.PolicyStep.cells))), (vI p.Repeat)]))], (.ref 1001 2), [], []⟩),
   (some 4, ⟨[(3, (.ref 1001 2))], [(1001, (.box [(vS p.Name), (.p (.sl false 3 (p.Steps.map D.PolicyStep.cells))), (vI p.Repeat)]))], (vI p.Repeat), [], []⟩),
   (some 5, ⟨[(4, (vI p.Repeat))], [], (vB false), [], []⟩),
   (some 6, ⟨[(5, (vB false))], [], (vB true), [], []⟩),
   (some 7, ⟨[(6, (vB true))], [], (vB true), [], []⟩),
   (some 8, ⟨[(7, (vB true))], [], (.tup []), [], []⟩),
   (some 9, ⟨[(7, (vB true))], [], (.tup []), [], []⟩),
   (some 10, ⟨[(7, (vB true))], [], (.tup []), [], []⟩),
   (some 11, ⟨[(7, (vB true))], [], (.tup []), [], []⟩),
   (some 12, ⟨[(7, (vB true))], [], (vB true), [], []⟩)]
   ⟨StepOK.p rfl rfl rfl (OpOK.fieldRef (fo := 2) rfl rfl (by kernel_rfl) rfl),
   StepOK.p rfl rfl rfl (OpOK.loadBox rfl rfl (by kernel_rfl) rfl),
   StepOK.p rfl rfl rfl (OpOK.call rfl (by kernel_rfl) rfl (by have hq := (pol_in p.Repeat 0 8); rw [hs1] at hq; exact hq) (by kernel_rfl)),
   StepOK.p rfl rfl rfl (OpOK.not rfl rfl rfl),
   StepOK.p rfl rfl rfl (OpOK.move rfl rfl),
   StepOK.k rfl rfl rfl rfl rfl rfl,
   StepOK.k rfl rfl rfl rfl rfl rfl,
   StepOK.k rfl rfl rfl rfl rfl rfl,
   StepOK.k rfl rfl rfl rfl rfl rfl,
   StepOK.p rfl rfl rfl (OpOK.pickT rfl rfl rfl), rfl⟩
   [(1, (.ref 1001 0)), (12, (vB true))]
   [(1001, (.box [(vS p.Name), (.p (.sl false 3 (p.Steps.map D.PolicyStep.cells))), (vI p.Repeat)]))]
   (by kernel_rfl) ?_
  refine AWp.cond_true rfl ?_
  refine AWp.s_region hGn hGk 
   [(some 2, ⟨[], [], (vI 0), [], []⟩)]
   ⟨StepOK.p rfl rfl rfl (OpOK.assign rfl rfl), rfl⟩
   [(2, (vI 0))]
   []
   (by kernel_rfl) ?_
  refine AWp.ret ?_
  refine nextQ_ret ?_
  refine fin_of (.inr rfl) (v := (vI 0)) (Res.tmp rfl rfl) (h' := []) rfl rfl ?_
  exact ⟨by first | (simp [count, *]; done) | (simp [count, *]; omega), rfl⟩
 ·skip
  have ha3 := inB_spec hs1
  refine AWp.s_region hGn hGk 
   [(some 3, ⟨[(1, (.ref 1001 0))], [(1001, (.box [(vS p.Name), (.p (.sl false 3 (p.Steps.map D.PolicyStep.cells))), (vI p.Repeat)]))], (.ref 1001 2), [], []⟩),
   (some 4, ⟨[(3, (.ref 1001 2))], [(1001, (.box [(vS p.Name), (.p (.sl false 3 (p.Steps.map D.PolicyStep.cells))), (vI p.Repeat)]))], (vI p.Repeat), [], []⟩),
   (some 5, ⟨[(4, (vI p.Repeat))], [], (vB true), [], []⟩),
   (some 6, ⟨[(5, (vB true))], [], (vB false), [], []⟩),
   (some 7, ⟨[(6, (vB false))], [], (vB false), [], []⟩),
   (some 8, ⟨[(1, (.ref 1001 0)), (7, (vB false))], [(1001, (.box [(vS p.Name), (.p (.sl false 3 (p.Steps.map D.PolicyStep.cells))), (vI p.Repeat)]))], (.ref 1001 1), [], []⟩),
   (some 9, ⟨[(8, (.ref 1001 1)), (7, (vB false))], [(1001, (.box [(vS p.Name), (.p (.sl false 3 (p.Steps.map D.PolicyStep.cells))), (vI p.Repeat)]))], (.p (.sl false 3 (p.Steps.map D.PolicyStep.cells))), [], []⟩),
   (some 10, ⟨[(9, (.p (.sl false 3 (p.Steps.map D.PolicyStep.cells)))), (7, (vB false))], [], (vI ((p.Steps.length : Nat) : Int)), [], []⟩),
   (some 11, ⟨[(10, (vI ((p.Steps.length : Nat) : Int))), (7, (vB false))], [], (vB (decide ((8 : Int) < ((p.Steps.length : Nat) : Int)))), [], []⟩),
   (some 12, ⟨[(7, (vB false)), (11, (vB (decide ((8 : Int) < ((p.Steps.length : Nat) : Int)))))], [], (vB (decide ((8 : Int) < ((p.Steps.length : Nat) : Int)))), [], []⟩)]
   ⟨StepOK.p rfl rfl rfl (OpOK.fieldRef (fo := 2) rfl rfl (by kernel_rfl) rfl),
   StepOK.p rfl rfl rfl (OpOK.loadBox rfl rfl (by kernel_rfl) rfl),
   StepOK.p rfl rfl rfl (OpOK.call rfl (by kernel_rfl) rfl (by have hq := (pol_in p.Repeat 0 8); rw [hs1] at hq; exact hq) (by kernel_rfl)),
   StepOK.p rfl rfl rfl (OpOK.not rfl rfl rfl),
   StepOK.p rfl rfl rfl (OpOK.move rfl rfl),
   StepOK.g rfl rfl rfl rfl rfl (by simp) (OpOK.fieldRef (fo := 1) rfl rfl (by kernel_rfl) rfl),
   StepOK.g rfl rfl rfl rfl rfl (by simp) (OpOK.loadBox rfl rfl (by kernel_rfl) rfl),
   StepOK.g rfl rfl rfl rfl rfl (by simp) (OpOK.lenP (e := 44) rfl rfl (by kernel_rfl) rfl (by rw [List.length_map])),
   StepOK.g rfl rfl rfl rfl rfl (by simp) (OpOK.gtr rfl rfl rfl rfl),
   StepOK.p rfl rfl rfl (OpOK.pickF rfl rfl rfl), rfl⟩
   [(1, (.ref 1001 0)), (12, (vB (decide ((8 : Int) < ((p.Steps.length : Nat) : Int)))))]
   [(1001, (.box [(vS p.Name), (.p (.sl false 3 (p.Steps.map D.PolicyStep.cells))), (vI p.Repeat)]))]
   (by kernel_rfl) ?_
  refine AWp.cond (decide ((8 : Int) < ((p.Steps.length : Nat) : Int))) rfl (fun hc4 => ?_) (fun hc4 => ?_)
  ·skip
   replace hc4 := of_decide_eq_true hc4
   refine AWp.s_region hGn hGk 
    [(some 2, ⟨[], [], (vI 0), [], []⟩)]
    ⟨StepOK.p rfl rfl rfl (OpOK.assign rfl rfl), rfl⟩
    [(2, (vI 0))]
    []
    (by kernel_rfl) ?_
   refine AWp.ret ?_
   refine nextQ_ret ?_
   refine fin_of (.inr rfl) (v := (vI 0)) (Res.tmp rfl rfl) (h' := []) rfl rfl ?_
   exact ⟨by first | (simp [count, *]; done) | (simp [count, *]; omega), rfl⟩
  ·skip
   replace hc4 := of_decide_eq_false hc4
   refine AWp.skip ?_
   refine nextQ_normal ?_
   refine AWp.s_region hGn hGk 
    [(some 13, ⟨[(1, (.ref 1001 0))], [(1001, (.box [(vS p.Name), (.p (.sl false 3 (p.Steps.map D.PolicyStep.cells))), (vI p.Repeat)]))], (.ref 1001 1), [], []⟩),
    (some 14, ⟨[(13, (.ref 1001 1))], [(1001, (.box [(vS p.Name), (.p (.sl false 3 (p.Steps.map D.PolicyStep.cells))), (vI p.Repeat)]))], (.p (.sl false 3 (p.Steps.map D.PolicyStep.cells))), [], []⟩),
    (some 15, ⟨[(14, (.p (.sl false 3 (p.Steps.map D.PolicyStep.cells))))], [], (vI ((p.Steps.length : Nat) : Int)), [], []⟩),
    (some 16, ⟨[(1, (.ref 1001 0))], [(1001, (.box [(vS p.Name), (.p (.sl false 3 (p.Steps.map D.PolicyStep.cells))), (vI p.Repeat)]))], (.ref 1001 2), [], []⟩),
    (some 17, ⟨[(16, (.ref 1001 2))], [(1001, (.box [(vS p.Name), (.p (.sl false 3 (p.Steps.map D.PolicyStep.cells))), (vI p.Repeat)]))], (vI p.Repeat), [], []⟩),
    (some 18, ⟨[(17, (vI p.Repeat))], [], (vI (p.Repeat + 1)), [], []⟩),
    (some 19, ⟨[(15, (vI ((p.Steps.length : Nat) : Int))), (18, (vI (p.Repeat + 1)))], [], (vI (((p.Steps.length : Nat) : Int) * (p.Repeat + 1))), [], []⟩),
    (some 2, ⟨[(19, (vI (((p.Steps.length : Nat) : Int) * (p.Repeat + 1))))], [], (vI (((p.Steps.length : Nat) : Int) * (p.Repeat + 1))), [], []⟩)]
    ⟨StepOK.p rfl rfl rfl (OpOK.fieldRef (fo := 1) rfl rfl (by kernel_rfl) rfl),
    StepOK.p rfl rfl rfl (OpOK.loadBox rfl rfl (by kernel_rfl) rfl),
    StepOK.p rfl rfl rfl (OpOK.lenP (e := 44) rfl rfl (by kernel_rfl) rfl (by rw [List.length_map])),
    StepOK.p rfl rfl rfl (OpOK.fieldRef (fo := 2) rfl rfl (by kernel_rfl) rfl),
    StepOK.p rfl rfl rfl (OpOK.loadBox rfl rfl (by kernel_rfl) rfl),
    StepOK.p rfl rfl rfl (OpOK.add rfl rfl rfl (IntWalk.i64_in _ (by have := inB_spec ‹_›; omega))),
    StepOK.p rfl rfl rfl (OpOK.mul rfl rfl rfl (IntWalk.i64_in _ (count_in ‹_› (by omega)))),
    StepOK.p rfl rfl rfl (OpOK.assign rfl rfl), rfl⟩
    [(2, (vI (((p.Steps.length : Nat) : Int) * (p.Repeat + 1))))]
    []
    (by kernel_rfl) ?_
   refine AWp.ret ?_
   refine fin_of (.inr rfl) (v := (vI (((p.Steps.length : Nat) : Int) * (p.Repeat + 1)))) (Res.tmp rfl rfl) (h' := []) rfl rfl ?_
   exact ⟨by first | (simp [count, *]; done) | (simp [count, *]; omega), rfl⟩

theorem pol_offsets (p : D.Policy) (hl : p.Steps.length ≤ 1000000) :
    SpecIs Try.prog 25 [(.agg [(vS p.Name), (.p (.sl false 3 (p.Steps.map D.PolicyStep.cells))), (vI p.Repeat)])] [] (.p (.sl false 1 ((offsets p).map D.cInt))) [] := by
 refine Spec.intro Try.func25 rfl (by kernel_rfl) ?_
 intro Γ hGn hGk
 replace hGn : Γ.n = 45 := hGn
 replace hGk : Γ.names = [] := hGk
 refine AWp.weaken (mk [(0, (.agg [(vS p.Name), (.p (.sl false 3 (p.Steps.map D.PolicyStep.cells))), (vI p.Repeat)]))] []) (Weak.sub' hGk (by kernel_rfl)) ?_
 refine AWp.s_region hGn hGk 
  [(some 1, ⟨[(0, (.agg [(vS p.Name), (.p (.sl false 3 (p.Steps.map D.PolicyStep.cells))), (vI p.Repeat)]))], [], (.ref 1001 0), [(1001, (.box [(vS p.Name), (.p (.sl false 3 (p.Steps.map D.PolicyStep.cells))), (vI p.Repeat)]))], [1001]⟩),
  (some 2, ⟨[], [], (.p (.sl true 0 [])), [], []⟩)]
  ⟨StepOK.p rfl rfl rfl (OpOK.box rfl rfl rfl),
  StepOK.p rfl rfl rfl (OpOK.assign rfl rfl), rfl⟩
  [(1, (.ref 1001 0))]
  [(1001, (.box [(vS p.Name), (.p (.sl false 3 (p.Steps.map D.PolicyStep.cells))), (vI p.Repeat)]))]
  (by kernel_rfl) ?_
 refine AWp.s_region hGn hGk 
  [(some 7, ⟨[], [], (.own 1007 1), [(1007, (.arr 1 [[(pI 0)]]))], [1007]⟩),
  (some 3, ⟨[(7, (.own 1007 1))], [], (.own 1007 1), [], []⟩)]
  ⟨StepOK.p rfl rfl rfl (OpOK.buildOwn (e := 3) (zr := [(pI 0)]) rfl (by kernel_rfl) (by kernel_rfl) (by kernel_rfl) (by kernel_rfl) rfl (by kernel_rfl) rfl rfl),
  StepOK.p rfl rfl rfl (OpOK.assign rfl rfl), rfl⟩
  [(1, (.ref 1001 0)), (3, (.own 1007 1))]
  [(1001, (.box [(vS p.Name), (.p (.sl false 3 (p.Steps.map D.PolicyStep.cells))), (vI p.Repeat)])), (1007, (.arr 1 [[(pI 0)]]))]
  (by kernel_rfl) ?_
 refine AWp.seq ?_
 refine AWp.s_region hGn hGk 
  [(some 8, ⟨[(1, (.ref 1001 0))], [(1001, (.box [(vS p.Name), (.p (.sl false 3 (p.Steps.map D.PolicyStep.cells))), (vI p.Repeat)]))], (.agg [(vS p.Name), (.p (.sl false 3 (p.Steps.map D.PolicyStep.cells))), (vI p.Repeat)]), [], []⟩),
  (some 9, ⟨[(8, (.agg [(vS p.Name), (.p (.sl false 3 (p.Steps.map D.PolicyStep.cells))), (vI p.Repeat)]))], [], (vI (count p)), [], []⟩),
  (some 10, ⟨[], [], (vI 0), [], []⟩)]
  ⟨StepOK.p rfl rfl rfl (OpOK.loadBoxAgg (z := 3) rfl rfl (by kernel_rfl) (by kernel_rfl) rfl rfl),
  StepOK.p rfl rfl rfl (OpOK.call rfl (by kernel_rfl) rfl (pol_Count p (by first | omega | decide)) (by kernel_rfl)),
  StepOK.p rfl rfl rfl (OpOK.move rfl rfl), rfl⟩
  [(1, (.ref 1001 0)), (3, (.own 1007 1)), (9, (vI (count p))), (10, (vI 0))]
  [(1001, (.box [(vS p.Name), (.p (.sl false 3 (p.Steps.map D.PolicyStep.cells))), (vI p.Repeat)])), (1007, (.arr 1 [[(pI 0)]]))]
  (by kernel_rfl) ?_
 refine AWp.block ?_
 refine AWp.loop (fun m s => ∃ k, s = (mk [(1, (.ref 1001 0)), (3, (.own 1007 (((offs p k).map D.cInt).length))), (9, (vI (count p))), (10, (vI ((k : Nat) : Int)))] [(1001, (.box [(vS p.Name), (.p (.sl false 3 (p.Steps.map D.PolicyStep.cells))), (vI p.Repeat)])), (1007, (.arr 1 ((offs p k).map D.cInt)))]) ∧ (k ≤ (count p).toNat) ∧ m = ((count p).toNat - k))
  ⟨_, 0, rfl, (by omega), rfl⟩ ?_
 rintro mm1 s ⟨k, rfl, hk, hmm1⟩
 have hcl := count_le p
 have ho := offs_len p k
 refine AWp.s_region hGn hGk 
  [(some 11, ⟨[(10, (vI ((k : Nat) : Int))), (9, (vI (count p)))], [], (vB (decide (((k : Nat) : Int) < (count p)))), [], []⟩)]
  ⟨StepOK.p rfl rfl rfl (OpOK.lss rfl rfl rfl rfl), rfl⟩
  [(1, (.ref 1001 0)), (3, (.own 1007 (((offs p k).map D.cInt).length))), (9, (vI (count p))), (10, (vI ((k : Nat) : Int))), (11, (vB (decide (((k : Nat) : Int) < (count p)))))]
  [(1001, (.box [(vS p.Name), (.p (.sl false 3 (p.Steps.map D.PolicyStep.cells))), (vI p.Repeat)])), (1007, (.arr 1 ((offs p k).map D.cInt)))]
  (by kernel_rfl) ?_
 refine AWp.seq ?_
 refine AWp.cond (decide (((k : Nat) : Int) < (count p))) rfl (fun hc2 => ?_) (fun hc2 => ?_)
 ·skip
  replace hc2 := of_decide_eq_true hc2
  refine AWp.skip ?_
  refine nextQ_normal ?_
  refine AWp.seq ?_
  refine AWp.block ?_
  refine AWp.s_region hGn hGk 
   [(some 12, ⟨[(10, (vI ((k : Nat) : Int)))], [], (vI ((k : Nat) : Int)), [], []⟩),
   (some 4, ⟨[(12, (vI ((k : Nat) : Int)))], [], (vI ((k : Nat) : Int)), [], []⟩)]
   ⟨StepOK.p rfl rfl rfl (OpOK.move rfl rfl),
   StepOK.p rfl rfl rfl (OpOK.assign rfl rfl), rfl⟩
   [(1, (.ref 1001 0)), (3, (.own 1007 (((offs p k).map D.cInt).length))), (4, (vI ((k : Nat) : Int))), (9, (vI (count p))), (10, (vI ((k : Nat) : Int)))]
   [(1001, (.box [(vS p.Name), (.p (.sl false 3 (p.Steps.map D.PolicyStep.cells))), (vI p.Repeat)])), (1007, (.arr 1 ((offs p k).map D.cInt)))]
   (by kernel_rfl) ?_
  have hl0 : 0 < p.Steps.length := count_pos (p := p) (k := k) (by assumption)
  have hm0 : k % p.Steps.length < p.Steps.length := Nat.mod_lt _ hl0
  refine AWp.draw' hGn hGk (by kernel_rfl)
   [(some 13, ⟨[(3, (.own 1007 (((offs p k).map D.cInt).length)))], [], (.own 1007 (((offs p k).map D.cInt).length)), [], []⟩),
   (some 14, ⟨[(3, (.own 1007 (((offs p k).map D.cInt).length)))], [], (.own 1007 (((offs p k).map D.cInt).length)), [], []⟩),
   (some 15, ⟨[(4, (vI ((k : Nat) : Int)))], [], (vI ((k : Nat) : Int)), [], []⟩),
   (some 16, ⟨[(14, (.own 1007 (((offs p k).map D.cInt).length))), (15, (vI ((k : Nat) : Int)))], [(1007, (.arr 1 ((offs p k).map D.cInt)))], (.aref 1007 (((offs p k).map D.cInt).length) k 0), [], []⟩),
   (some 17, ⟨[(16, (.aref 1007 (((offs p k).map D.cInt).length) k 0))], [(1007, (.arr 1 ((offs p k).map D.cInt)))], (vI (offW p k)), [], []⟩),
   (some 18, ⟨[(1, (.ref 1001 0))], [(1001, (.box [(vS p.Name), (.p (.sl false 3 (p.Steps.map D.PolicyStep.cells))), (vI p.Repeat)]))], (.ref 1001 1), [], []⟩),
   (some 19, ⟨[(18, (.ref 1001 1))], [(1001, (.box [(vS p.Name), (.p (.sl false 3 (p.Steps.map D.PolicyStep.cells))), (vI p.Repeat)]))], (.p (.sl false 3 (p.Steps.map D.PolicyStep.cells))), [], []⟩),
   (some 20, ⟨[(4, (vI ((k : Nat) : Int)))], [], (vI ((k : Nat) : Int)), [], []⟩),
   (some 21, ⟨[(1, (.ref 1001 0))], [(1001, (.box [(vS p.Name), (.p (.sl false 3 (p.Steps.map D.PolicyStep.cells))), (vI p.Repeat)]))], (.ref 1001 1), [], []⟩),
   (some 22, ⟨[(21, (.ref 1001 1))], [(1001, (.box [(vS p.Name), (.p (.sl false 3 (p.Steps.map D.PolicyStep.cells))), (vI p.Repeat)]))], (.p (.sl false 3 (p.Steps.map D.PolicyStep.cells))), [], []⟩),
   (some 23, ⟨[(22, (.p (.sl false 3 (p.Steps.map D.PolicyStep.cells))))], [], (vI ((p.Steps.length : Nat) : Int)), [], []⟩),
   (some 24, ⟨[(20, (vI ((k : Nat) : Int))), (23, (vI ((p.Steps.length : Nat) : Int)))], [], (vI ((k % p.Steps.length : Nat) : Int)), [], []⟩),
   (some 25, ⟨[(19, (.p (.sl false 3 (p.Steps.map D.PolicyStep.cells)))), (24, (vI ((k % p.Steps.length : Nat) : Int)))], [], (.eptr [(pI ((nth p.Steps (k % p.Steps.length)).Wait)), (pB ((nth p.Steps (k % p.Steps.length)).Urgent)), (.sl false 2 (((nth p.Steps (k % p.Steps.length)).Targets).map D.Target.cells))]), [], []⟩),
   (some 26, ⟨[(25, (.eptr [(pI ((nth p.Steps (k % p.Steps.length)).Wait)), (pB ((nth p.Steps (k % p.Steps.length)).Urgent)), (.sl false 2 (((nth p.Steps (k % p.Steps.length)).Targets).map D.Target.cells))]))], [], (.eptr [(pI ((nth p.Steps (k % p.Steps.length)).Wait)), (pB ((nth p.Steps (k % p.Steps.length)).Urgent)), (.sl false 2 (((nth p.Steps (k % p.Steps.length)).Targets).map D.Target.cells))]), [], []⟩),
   (some 27, ⟨[(26, (.eptr [(pI ((nth p.Steps (k % p.Steps.length)).Wait)), (pB ((nth p.Steps (k % p.Steps.length)).Urgent)), (.sl false 2 (((nth p.Steps (k % p.Steps.length)).Targets).map D.Target.cells))]))], [], (vI ((nth p.Steps (k % p.Steps.length)).Wait)), [], []⟩),
   (some 28, ⟨[(17, (vI (offW p k))), (27, (vI ((nth p.Steps (k % p.Steps.length)).Wait)))], [], (vI (offW p (k + 1))), [], []⟩),
   (some 29, ⟨[(28, (vI (offW p (k + 1))))], [], (.p (.sl true 1 [[(pI (offW p (k + 1)))]])), [], []⟩),
   (some 30, ⟨[(13, (.own 1007 (((offs p k).map D.cInt).length))), (29, (.p (.sl true 1 [[(pI (offW p (k + 1)))]])))], [(1007, (.arr 1 ((offs p k).map D.cInt)))], (.own 1007 (((offs p (k + 1)).map D.cInt).length)), [(1007, (.arr 1 ((offs p (k + 1)).map D.cInt)))], []⟩),
   (some 3, ⟨[(30, (.own 1007 (((offs p (k + 1)).map D.cInt).length)))], [], (.own 1007 (((offs p (k + 1)).map D.cInt).length)), [], []⟩)]
   ⟨StepOK.p rfl rfl rfl (OpOK.move rfl rfl),
   StepOK.p rfl rfl rfl (OpOK.move rfl rfl),
   StepOK.p rfl rfl rfl (OpOK.move rfl rfl),
   StepOK.p rfl rfl rfl (OpOK.indexOwn (e := 3) rfl (by kernel_rfl) (by kernel_rfl) rfl (Nat.beq_refl _) rfl rfl (by simp only [List.length_map]; omega)),
   StepOK.p rfl rfl rfl (OpOK.loadElem rfl rfl (by kernel_rfl) (Nat.beq_refl _) (offs_at p k) rfl),
   StepOK.p rfl rfl rfl (OpOK.fieldRef (fo := 1) rfl rfl (by kernel_rfl) rfl),
   StepOK.p rfl rfl rfl (OpOK.loadBox rfl rfl (by kernel_rfl) rfl),
   StepOK.p rfl rfl rfl (OpOK.move rfl rfl),
   StepOK.p rfl rfl rfl (OpOK.fieldRef (fo := 1) rfl rfl (by kernel_rfl) rfl),
   StepOK.p rfl rfl rfl (OpOK.loadBox rfl rfl (by kernel_rfl) rfl),
   StepOK.p rfl rfl rfl (OpOK.lenP (e := 44) rfl rfl (by kernel_rfl) rfl (by rw [List.length_map])),
   StepOK.p rfl rfl rfl (OpOK.rem rfl rfl rfl (by omega) (Int.ofNat_tmod _ _).symm),
   StepOK.p rfl rfl rfl (OpOK.indexP (e := 44) rfl (by kernel_rfl) (by kernel_rfl) rfl rfl rfl (map_nth (by omega))),
   StepOK.p rfl rfl rfl (OpOK.fieldPtr (fo := 0) rfl rfl (by kernel_rfl) rfl),
   StepOK.p rfl rfl rfl (OpOK.loadPtr rfl rfl (by kernel_rfl) rfl),
   StepOK.p rfl rfl rfl (OpOK.add rfl rfl rfl rfl),
   StepOK.p rfl rfl rfl (OpOK.buildSlice (e := 3) (zr := [(pI 0)]) rfl (by kernel_rfl) (by kernel_rfl) (by kernel_rfl) (by kernel_rfl) rfl (by kernel_rfl) rfl),
   StepOK.p rfl rfl rfl (OpOK.appendOwn (e := 3) (bytes := 8) rfl rfl (by kernel_rfl) (by kernel_rfl) rfl (Nat.beq_refl _) rfl (offs_snoc p k) rfl (by simp only [List.length_map, List.length_cons, List.length_nil]; omega) (by simp only [List.length_map, List.length_cons, List.length_nil]; omega)),
   StepOK.p rfl rfl rfl (OpOK.assign rfl rfl), rfl⟩
   [(1, (.ref 1001 0)), (3, (.own 1007 (((offs p (k + 1)).map D.cInt).length))), (9, (vI (count p))), (10, (vI ((k : Nat) : Int)))]
   [(1001, (.box [(vS p.Name), (.p (.sl false 3 (p.Steps.map D.PolicyStep.cells))), (vI p.Repeat)])), (1007, (.arr 1 ((offs p (k + 1)).map D.cInt)))]
   (by kernel_rfl) (by kernel_rfl) ?_
  refine blockQ_normal ?_
  refine nextQ_normal ?_
  refine AWp.region' hGn hGk 
   [(some 31, ⟨[(10, (vI ((k : Nat) : Int)))], [], (vI ((k + 1 : Nat) : Int)), [], []⟩),
   (some 10, ⟨[(31, (vI ((k + 1 : Nat) : Int)))], [], (vI ((k + 1 : Nat) : Int)), [], []⟩)]
   ⟨StepOK.p rfl rfl rfl (OpOK.add rfl rfl rfl (by rw [IntWalk.i64_in _ ⟨by omega, by omega⟩]; omega)),
   StepOK.p rfl rfl rfl (OpOK.move rfl rfl), rfl⟩
   [(1, (.ref 1001 0)), (3, (.own 1007 (((offs p (k + 1)).map D.cInt).length))), (9, (vI (count p))), (10, (vI ((k + 1 : Nat) : Int)))]
   [(1001, (.box [(vS p.Name), (.p (.sl false 3 (p.Steps.map D.PolicyStep.cells))), (vI p.Repeat)])), (1007, (.arr 1 ((offs p (k + 1)).map D.cInt)))]
   (by kernel_rfl) ?_
  refine nextQ_normal ⟨_, ?_, (k + 1), rfl, (by omega), rfl⟩
  · omega
 ·skip
  replace hc2 := of_decide_eq_false hc2
  refine AWp.weaken (mk [(1, (.ref 1001 0)), (3, (.own 1007 (((offs p k).map D.cInt).length)))] [(1001, (.box [(vS p.Name), (.p (.sl false 3 (p.Steps.map D.PolicyStep.cells))), (vI p.Repeat)])), (1007, (.arr 1 ((offs p k).map D.cInt)))]) (Weak.sub' hGk (by kernel_rfl)) ?_
  refine AWp.exit ?_
  refine nextQ_exit ?_
  refine nextQ_exit ?_
  refine blockQ_exit ?_
  refine nextQ_normal ?_
  refine AWp.seq ?_
  refine AWp.s_region hGn hGk 
   [(some 32, ⟨[(1, (.ref 1001 0))], [(1001, (.box [(vS p.Name), (.p (.sl false 3 (p.Steps.map D.PolicyStep.cells))), (vI p.Repeat)]))], (.ref 1001 1), [], []⟩),
   (some 33, ⟨[(32, (.ref 1001 1))], [(1001, (.box [(vS p.Name), (.p (.sl false 3 (p.Steps.map D.PolicyStep.cells))), (vI p.Repeat)]))], (.p (.sl false 3 (p.Steps.map D.PolicyStep.cells))), [], []⟩),
   (some 34, ⟨[(33, (.p (.sl false 3 (p.Steps.map D.PolicyStep.cells))))], [], (vI ((p.Steps.length : Nat) : Int)), [], []⟩),
   (some 35, ⟨[], [], (vI 0), [], []⟩)]
   ⟨StepOK.p rfl rfl rfl (OpOK.fieldRef (fo := 1) rfl rfl (by kernel_rfl) rfl),
   StepOK.p rfl rfl rfl (OpOK.loadBox rfl rfl (by kernel_rfl) rfl),
   StepOK.p rfl rfl rfl (OpOK.lenP (e := 44) rfl rfl (by kernel_rfl) rfl (by rw [List.length_map])),
   StepOK.p rfl rfl rfl (OpOK.move rfl rfl), rfl⟩
   [(3, (.own 1007 (((offs p k).map D.cInt).length))), (33, (.p (.sl false 3 (p.Steps.map D.PolicyStep.cells)))), (34, (vI ((p.Steps.length : Nat) : Int))), (35, (vI 0))]
   [(1007, (.arr 1 ((offs p k).map D.cInt)))]
   (by kernel_rfl) ?_
  refine AWp.block ?_
  refine AWp.loop (fun m s => ∃ i, s = (mk [(3, (.own 1007 (((offs p k).map D.cInt).length))), (33, (.p (.sl false 3 (p.Steps.map D.PolicyStep.cells)))), (34, (vI ((p.Steps.length : Nat) : Int))), (35, (vI ((i : Nat) : Int)))] [(1007, (.arr 1 ((offs p k).map D.cInt)))]) ∧ (i ≤ p.Steps.length) ∧ (∀ j, j < i → inB (nth p.Steps j).Wait 0 86400 = true) ∧ m = (p.Steps.length - i))
   ⟨_, 0, rfl, (by omega), (by intro j hj; omega), rfl⟩ ?_
  rintro mm3 s ⟨i, rfl, hi, hw, hmm3⟩
  refine AWp.s_region hGn hGk 
   [(some 36, ⟨[(35, (vI ((i : Nat) : Int))), (34, (vI ((p.Steps.length : Nat) : Int)))], [], (vB (decide (((i : Nat) : Int) < ((p.Steps.length : Nat) : Int)))), [], []⟩)]
   ⟨StepOK.p rfl rfl rfl (OpOK.lss rfl rfl rfl rfl), rfl⟩
   [(3, (.own 1007 (((offs p k).map D.cInt).length))), (33, (.p (.sl false 3 (p.Steps.map D.PolicyStep.cells)))), (34, (vI ((p.Steps.length : Nat) : Int))), (35, (vI ((i : Nat) : Int))), (36, (vB (decide (((i : Nat) : Int) < ((p.Steps.length : Nat) : Int)))))]
   [(1007, (.arr 1 ((offs p k).map D.cInt)))]
   (by kernel_rfl) ?_
  refine AWp.seq ?_
  refine AWp.cond (decide (((i : Nat) : Int) < ((p.Steps.length : Nat) : Int))) rfl (fun hc4 => ?_) (fun hc4 => ?_)
  ·skip
   replace hc4 := of_decide_eq_true hc4
   refine AWp.skip ?_
   refine nextQ_normal ?_
   refine AWp.seq ?_
   refine AWp.block ?_
   refine AWp.s_region hGn hGk 
    [(some 37, ⟨[(33, (.p (.sl false 3 (p.Steps.map D.PolicyStep.cells)))), (35, (vI ((i : Nat) : Int)))], [], (.eptr [(pI ((nth p.Steps i).Wait)), (pB ((nth p.Steps i).Urgent)), (.sl false 2 (((nth p.Steps i).Targets).map D.Target.cells))]), [], []⟩),
    (some 38, ⟨[(37, (.eptr [(pI ((nth p.Steps i).Wait)), (pB ((nth p.Steps i).Urgent)), (.sl false 2 (((nth p.Steps i).Targets).map D.Target.cells))]))], [], (.agg [(vI ((nth p.Steps i).Wait)), (vB ((nth p.Steps i).Urgent)), (.p (.sl false 2 (((nth p.Steps i).Targets).map D.Target.cells)))]), [], []⟩),
    (some 6, ⟨[], [], (.ref 1006 0), [(1006, (.box [(vI 0), (vB false), (.p (.sl true 0 []))]))], [1006]⟩),
    (none, ⟨[(6, (.ref 1006 0)), (38, (.agg [(vI ((nth p.Steps i).Wait)), (vB ((nth p.Steps i).Urgent)), (.p (.sl false 2 (((nth p.Steps i).Targets).map D.Target.cells)))]))], [(1006, (.box [(vI 0), (vB false), (.p (.sl true 0 []))]))], .any, [(1006, (.box [(vI ((nth p.Steps i).Wait)), (vB ((nth p.Steps i).Urgent)), (.p (.sl false 2 (((nth p.Steps i).Targets).map D.Target.cells)))]))], []⟩)]
    ⟨StepOK.p rfl rfl rfl (OpOK.indexP (e := 44) rfl (by kernel_rfl) (by kernel_rfl) rfl rfl rfl (map_nth (by omega))),
    StepOK.p rfl rfl rfl (OpOK.loadPtrAgg (z := 3) (sub := [(pI ((nth p.Steps i).Wait)), (pB ((nth p.Steps i).Urgent)), (.sl false 2 (((nth p.Steps i).Targets).map D.Target.cells))]) rfl rfl (by kernel_rfl) (by kernel_rfl) rfl rfl rfl),
    StepOK.p rfl rfl rfl (OpOK.alloc rfl (by kernel_rfl)),
    StepOK.p rfl rfl rfl (OpOK.storeBox rfl rfl rfl rfl rfl (by kernel_rfl) (by kernel_rfl) rfl), rfl⟩
    [(3, (.own 1007 (((offs p k).map D.cInt).length))), (6, (.ref 1006 0)), (33, (.p (.sl false 3 (p.Steps.map D.PolicyStep.cells)))), (34, (vI ((p.Steps.length : Nat) : Int))), (35, (vI ((i : Nat) : Int)))]
    [(1007, (.arr 1 ((offs p k).map D.cInt))), (1006, (.box [(vI ((nth p.Steps i).Wait)), (vB ((nth p.Steps i).Urgent)), (.p (.sl false 2 (((nth p.Steps i).Targets).map D.Target.cells)))]))]
    (by kernel_rfl) ?_
   refine AWp.s_region hGn hGk 
    [(some 39, ⟨[(6, (.ref 1006 0))], [(1006, (.box [(vI ((nth p.Steps i).Wait)), (vB ((nth p.Steps i).Urgent)), (.p (.sl false 2 (((nth p.Steps i).Targets).map D.Target.cells)))]))], (.ref 1006 0), [], []⟩),
    (some 40, ⟨[(39, (.ref 1006 0))], [(1006, (.box [(vI ((nth p.Steps i).Wait)), (vB ((nth p.Steps i).Urgent)), (.p (.sl false 2 (((nth p.Steps i).Targets).map D.Target.cells)))]))], (vI ((nth p.Steps i).Wait)), [], []⟩),
    (some 41, ⟨[(40, (vI ((nth p.Steps i).Wait)))], [], (vB (inB ((nth p.Steps i).Wait) 0 86400)), [], []⟩),
    (some 42, ⟨[(41, (vB (inB ((nth p.Steps i).Wait) 0 86400)))], [], (vB (!(inB ((nth p.Steps i).Wait) 0 86400))), [], []⟩)]
    ⟨StepOK.p rfl rfl rfl (OpOK.fieldRef (fo := 0) rfl rfl (by kernel_rfl) rfl),
    StepOK.p rfl rfl rfl (OpOK.loadBox rfl rfl (by kernel_rfl) rfl),
    StepOK.p rfl rfl rfl (OpOK.call rfl (by kernel_rfl) rfl (pol_in ((nth p.Steps i).Wait) 0 86400) (by kernel_rfl)),
    StepOK.p rfl rfl rfl (OpOK.not rfl rfl rfl), rfl⟩
    [(3, (.own 1007 (((offs p k).map D.cInt).length))), (33, (.p (.sl false 3 (p.Steps.map D.PolicyStep.cells)))), (34, (vI ((p.Steps.length : Nat) : Int))), (35, (vI ((i : Nat) : Int))), (42, (vB (!(inB ((nth p.Steps i).Wait) 0 86400))))]
    [(1007, (.arr 1 ((offs p k).map D.cInt)))]
    (by kernel_rfl) ?_
   refine AWp.cond (!(inB ((nth p.Steps i).Wait) 0 86400)) rfl (fun hc5 => ?_) (fun hc5 => ?_)
   ·skip
    replace hc5 : inB ((nth p.Steps i).Wait) 0 86400 = false := by simpa using hc5
    have ha6 := inB_false hc5
    refine AWp.s_region hGn hGk 
     [(some 2, ⟨[], [], (.p (.sl true 0 [])), [], []⟩)]
     ⟨StepOK.p rfl rfl rfl (OpOK.assign rfl rfl), rfl⟩
     [(2, (.p (.sl true 0 [])))]
     []
     (by kernel_rfl) ?_
    refine AWp.weaken (mk [(2, (.p (.sl false 1 [])))] []) (Weak.le ⟨rfl, (.p (PVle.nil (by simp))), trivial⟩ trivial) ?_
    refine AWp.ret ?_
    refine blockQ_ret ?_
    refine nextQ_ret ?_
    refine nextQ_ret ?_
    refine blockQ_ret ?_
    refine nextQ_ret ?_
    refine fin_of (.inr rfl) (v := (.p (.sl false 1 []))) (Res.tmp rfl rfl) (h' := []) rfl rfl ?_
    exact ⟨by rw [offsets_no p i (by omega) (by assumption)]; rfl, rfl⟩
   ·skip
    replace hc5 : inB ((nth p.Steps i).Wait) 0 86400 = true := by simpa using hc5
    have ha7 := inB_spec hc5
    refine AWp.skip ?_
    refine blockQ_normal ?_
    refine nextQ_normal ?_
    refine AWp.region' hGn hGk 
     [(some 43, ⟨[(35, (vI ((i : Nat) : Int)))], [], (vI ((i + 1 : Nat) : Int)), [], []⟩),
     (some 35, ⟨[(43, (vI ((i + 1 : Nat) : Int)))], [], (vI ((i + 1 : Nat) : Int)), [], []⟩)]
     ⟨StepOK.p rfl rfl rfl (OpOK.add rfl rfl rfl (by rw [IntWalk.i64_in _ ⟨by omega, by omega⟩]; omega)),
     StepOK.p rfl rfl rfl (OpOK.move rfl rfl), rfl⟩
     [(3, (.own 1007 (((offs p k).map D.cInt).length))), (33, (.p (.sl false 3 (p.Steps.map D.PolicyStep.cells)))), (34, (vI ((p.Steps.length : Nat) : Int))), (35, (vI ((i + 1 : Nat) : Int)))]
     [(1007, (.arr 1 ((offs p k).map D.cInt)))]
     (by kernel_rfl) ?_
    refine nextQ_normal ⟨_, ?_, (i + 1), rfl, (by omega), (fun j hj => by rcases Nat.lt_or_ge j i with h | h; exact hw j h; rw [show j = i from by omega]; assumption), rfl⟩
    · omega
  ·skip
   replace hc4 := of_decide_eq_false hc4
   refine AWp.weaken (mk [(3, (.own 1007 (((offs p k).map D.cInt).length)))] [(1007, (.arr 1 ((offs p k).map D.cInt)))]) (Weak.sub' hGk (by kernel_rfl)) ?_
   refine AWp.exit ?_
   refine nextQ_exit ?_
   refine nextQ_exit ?_
   refine blockQ_exit ?_
   refine nextQ_normal ?_
   refine AWp.s_region hGn hGk 
    [(some 44, ⟨[(3, (.own 1007 (((offs p k).map D.cInt).length)))], [], (.own 1007 (((offs p k).map D.cInt).length)), [], []⟩),
    (some 2, ⟨[(44, (.own 1007 (((offs p k).map D.cInt).length)))], [], (.own 1007 (((offs p k).map D.cInt).length)), [], []⟩)]
    ⟨StepOK.p rfl rfl rfl (OpOK.move rfl rfl),
    StepOK.p rfl rfl rfl (OpOK.assign rfl rfl), rfl⟩
    [(2, (.own 1007 (((offs p k).map D.cInt).length)))]
    [(1007, (.arr 1 ((offs p k).map D.cInt)))]
    (by kernel_rfl) ?_
   refine AWp.weaken (mk [(2, (.p (.sl false 1 ((offs p k).map D.cInt))))] []) (Weak.freeze (n := 1007) (es := 1) (rows := ((offs p k).map D.cInt)) (by rw [hGk]; decide) ⟨rfl, .own, trivial⟩ trivial) ?_
   refine AWp.ret ?_
   refine fin_of (.inr rfl) (v := (.p (.sl false 1 ((offs p k).map D.cInt)))) (Res.tmp rfl rfl) (h' := []) rfl rfl ?_
   exact ⟨by rw [offsets_ok p (fun j hj => hw j (by omega)), show (count p).toNat = k from by omega], rfl⟩

theorem pol_Offset (p : D.Policy) (k : Int) (hl : p.Steps.length ≤ 1000000) :
    SpecIs Try.prog 11 [(.agg [(vS p.Name), (.p (.sl false 3 (p.Steps.map D.PolicyStep.cells))), (vI p.Repeat)]), (vI k)] [] (.tup [(vI ((offset p k).1)), (vB ((offset p k).2))]) [] := by
 refine Spec.intro Try.func11 rfl (by kernel_rfl) ?_
 intro Γ hGn hGk
 replace hGn : Γ.n = 19 := hGn
 replace hGk : Γ.names = [] := hGk
 have hol := offsets_len_le p
 refine AWp.weaken (mk [(0, (.agg [(vS p.Name), (.p (.sl false 3 (p.Steps.map D.PolicyStep.cells))), (vI p.Repeat)])), (1, (vI k))] []) (Weak.sub' hGk (by kernel_rfl)) ?_
 refine AWp.s_region hGn hGk 
  [(some 2, ⟨[(0, (.agg [(vS p.Name), (.p (.sl false 3 (p.Steps.map D.PolicyStep.cells))), (vI p.Repeat)]))], [], (.ref 1002 0), [(1002, (.box [(vS p.Name), (.p (.sl false 3 (p.Steps.map D.PolicyStep.cells))), (vI p.Repeat)]))], [1002]⟩),
  (some 4, ⟨[], [], (vI 0), [], []⟩),
  (some 5, ⟨[], [], (vB false), [], []⟩)]
  ⟨StepOK.p rfl rfl rfl (OpOK.box rfl rfl rfl),
  StepOK.p rfl rfl rfl (OpOK.assign rfl rfl),
  StepOK.p rfl rfl rfl (OpOK.assign rfl rfl), rfl⟩
  [(1, (vI k)), (2, (.ref 1002 0))]
  [(1002, (.box [(vS p.Name), (.p (.sl false 3 (p.Steps.map D.PolicyStep.cells))), (vI p.Repeat)]))]
  (by kernel_rfl) ?_
 refine AWp.s_region hGn hGk 
  [(some 7, ⟨[(2, (.ref 1002 0))], [(1002, (.box [(vS p.Name), (.p (.sl false 3 (p.Steps.map D.PolicyStep.cells))), (vI p.Repeat)]))], (.agg [(vS p.Name), (.p (.sl false 3 (p.Steps.map D.PolicyStep.cells))), (vI p.Repeat)]), [], []⟩),
  (some 8, ⟨[(7, (.agg [(vS p.Name), (.p (.sl false 3 (p.Steps.map D.PolicyStep.cells))), (vI p.Repeat)]))], [], (.p (.sl false 1 ((offsets p).map D.cInt))), [], []⟩),
  (some 6, ⟨[(8, (.p (.sl false 1 ((offsets p).map D.cInt))))], [], (.p (.sl false 1 ((offsets p).map D.cInt))), [], []⟩)]
  ⟨StepOK.p rfl rfl rfl (OpOK.loadBoxAgg (z := 3) rfl rfl (by kernel_rfl) (by kernel_rfl) rfl rfl),
  StepOK.p rfl rfl rfl (OpOK.call rfl (by kernel_rfl) rfl (pol_offsets p (by omega)) (by kernel_rfl)),
  StepOK.p rfl rfl rfl (OpOK.assign rfl rfl), rfl⟩
  [(1, (vI k)), (6, (.p (.sl false 1 ((offsets p).map D.cInt))))]
  []
  (by kernel_rfl) ?_
 refine AWp.seq ?_
 refine AWp.s_region hGn hGk 
  [(some 9, ⟨[(1, (vI k))], [], (vI k), [], []⟩),
  (some 10, ⟨[(6, (.p (.sl false 1 ((offsets p).map D.cInt))))], [], (.p (.sl false 1 ((offsets p).map D.cInt))), [], []⟩),
  (some 11, ⟨[(10, (.p (.sl false 1 ((offsets p).map D.cInt))))], [], (vI (((offsets p).length : Nat) : Int)), [], []⟩),
  (some 12, ⟨[(11, (vI (((offsets p).length : Nat) : Int)))], [], (vI ((((offsets p).length : Nat) : Int) - 1)), [], []⟩),
  (some 13, ⟨[(9, (vI k)), (12, (vI ((((offsets p).length : Nat) : Int) - 1)))], [], (vB (inB k 0 ((((offsets p).length : Nat) : Int) - 1))), [], []⟩),
  (some 14, ⟨[(13, (vB (inB k 0 ((((offsets p).length : Nat) : Int) - 1))))], [], (vB (!(inB k 0 ((((offsets p).length : Nat) : Int) - 1)))), [], []⟩)]
  ⟨StepOK.p rfl rfl rfl (OpOK.move rfl rfl),
  StepOK.p rfl rfl rfl (OpOK.move rfl rfl),
  StepOK.p rfl rfl rfl (OpOK.lenP (e := 3) rfl rfl (by kernel_rfl) rfl (by rw [List.length_map])),
  StepOK.p rfl rfl rfl (OpOK.sub rfl rfl rfl (IntWalk.i64_in _ ⟨by omega, by omega⟩)),
  StepOK.p rfl rfl rfl (OpOK.call rfl (by kernel_rfl) rfl (pol_in k 0 ((((offsets p).length : Nat) : Int) - 1)) (by kernel_rfl)),
  StepOK.p rfl rfl rfl (OpOK.not rfl rfl rfl), rfl⟩
  [(1, (vI k)), (6, (.p (.sl false 1 ((offsets p).map D.cInt)))), (14, (vB (!(inB k 0 ((((offsets p).length : Nat) : Int) - 1)))))]
  []
  (by kernel_rfl) ?_
 refine AWp.cond (!(inB k 0 ((((offsets p).length : Nat) : Int) - 1))) rfl (fun hc1 => ?_) (fun hc1 => ?_)
 ·skip
  replace hc1 : inB k 0 ((((offsets p).length : Nat) : Int) - 1) = false := by simpa using hc1
  have ha2 := inB_false hc1
  refine AWp.s_region hGn hGk 
   [(some 4, ⟨[], [], (vI 0), [], []⟩),
   (some 5, ⟨[], [], (vB false), [], []⟩)]
   ⟨StepOK.p rfl rfl rfl (OpOK.assign rfl rfl),
   StepOK.p rfl rfl rfl (OpOK.assign rfl rfl), rfl⟩
   [(4, (vI 0)), (5, (vB false))]
   []
   (by kernel_rfl) ?_
  refine AWp.ret ?_
  refine nextQ_ret ?_
  refine fin_of (.inr rfl) (v := (.tup [(vI 0), (vB false)])) (Res.many (by kernel_rfl) (Res1s.cons (Res1.tmp rfl) (Res1s.cons (Res1.tmp rfl) Res1s.nil))) (h' := []) rfl rfl ?_
  exact ⟨by simp [offset, *], rfl⟩
 ·skip
  replace hc1 : inB k 0 ((((offsets p).length : Nat) : Int) - 1) = true := by simpa using hc1
  have ha3 := inB_spec hc1
  refine AWp.skip ?_
  refine nextQ_normal ?_
  refine AWp.s_region hGn hGk 
   [(some 15, ⟨[(6, (.p (.sl false 1 ((offsets p).map D.cInt))))], [], (.p (.sl false 1 ((offsets p).map D.cInt))), [], []⟩),
   (some 16, ⟨[(1, (vI k))], [], (vI k), [], []⟩),
   (some 17, ⟨[(15, (.p (.sl false 1 ((offsets p).map D.cInt)))), (16, (vI k))], [], (.eptr [(pI (nth (offsets p) ((k).toNat)))]), [], []⟩),
   (some 18, ⟨[(17, (.eptr [(pI (nth (offsets p) ((k).toNat)))]))], [], (vI (nth (offsets p) ((k).toNat))), [], []⟩),
   (some 4, ⟨[(18, (vI (nth (offsets p) ((k).toNat))))], [], (vI (nth (offsets p) ((k).toNat))), [], []⟩),
   (some 5, ⟨[], [], (vB true), [], []⟩)]
   ⟨StepOK.p rfl rfl rfl (OpOK.move rfl rfl),
   StepOK.p rfl rfl rfl (OpOK.move rfl rfl),
   StepOK.p rfl rfl rfl (OpOK.indexP (e := 3) rfl (by kernel_rfl) (by kernel_rfl) rfl rfl (by omega) (map_nth (by omega))),
   StepOK.p rfl rfl rfl (OpOK.loadPtr rfl rfl (by kernel_rfl) rfl),
   StepOK.p rfl rfl rfl (OpOK.assign rfl rfl),
   StepOK.p rfl rfl rfl (OpOK.assign rfl rfl), rfl⟩
   [(4, (vI (nth (offsets p) ((k).toNat)))), (5, (vB true))]
   []
   (by kernel_rfl) ?_
  refine AWp.ret ?_
  refine fin_of (.inr rfl) (v := (.tup [(vI (nth (offsets p) ((k).toNat))), (vB true)])) (Res.many (by kernel_rfl) (Res1s.cons (Res1.tmp rfl) (Res1s.cons (Res1.tmp rfl) Res1s.nil))) (h' := []) rfl rfl ?_
  exact ⟨by simp [offset, *], rfl⟩

theorem pol_End (p : D.Policy) (hl : p.Steps.length ≤ 1000000) :
    SpecIs Try.prog 12 [(.agg [(vS p.Name), (.p (.sl false 3 (p.Steps.map D.PolicyStep.cells))), (vI p.Repeat)])] [] (vI ((offset p (count p)).1)) [] := by
 refine Spec.intro Try.func12 rfl (by kernel_rfl) ?_
 intro Γ hGn hGk
 replace hGn : Γ.n = 13 := hGn
 replace hGk : Γ.names = [] := hGk
 refine AWp.weaken (mk [(0, (.agg [(vS p.Name), (.p (.sl false 3 (p.Steps.map D.PolicyStep.cells))), (vI p.Repeat)]))] []) (Weak.sub' hGk (by kernel_rfl)) ?_
 refine AWp.s_region hGn hGk 
  [(some 1, ⟨[(0, (.agg [(vS p.Name), (.p (.sl false 3 (p.Steps.map D.PolicyStep.cells))), (vI p.Repeat)]))], [], (.ref 1001 0), [(1001, (.box [(vS p.Name), (.p (.sl false 3 (p.Steps.map D.PolicyStep.cells))), (vI p.Repeat)]))], [1001]⟩),
  (some 2, ⟨[], [], (vI 0), [], []⟩)]
  ⟨StepOK.p rfl rfl rfl (OpOK.box rfl rfl rfl),
  StepOK.p rfl rfl rfl (OpOK.assign rfl rfl), rfl⟩
  [(1, (.ref 1001 0))]
  [(1001, (.box [(vS p.Name), (.p (.sl false 3 (p.Steps.map D.PolicyStep.cells))), (vI p.Repeat)]))]
  (by kernel_rfl) ?_
 refine AWp.s_draw hGn hGk (by kernel_rfl)
  [(some 6, ⟨[(1, (.ref 1001 0))], [(1001, (.box [(vS p.Name), (.p (.sl false 3 (p.Steps.map D.PolicyStep.cells))), (vI p.Repeat)]))], (.agg [(vS p.Name), (.p (.sl false 3 (p.Steps.map D.PolicyStep.cells))), (vI p.Repeat)]), [], []⟩),
  (some 7, ⟨[(1, (.ref 1001 0))], [(1001, (.box [(vS p.Name), (.p (.sl false 3 (p.Steps.map D.PolicyStep.cells))), (vI p.Repeat)]))], (.agg [(vS p.Name), (.p (.sl false 3 (p.Steps.map D.PolicyStep.cells))), (vI p.Repeat)]), [], []⟩),
  (some 8, ⟨[(7, (.agg [(vS p.Name), (.p (.sl false 3 (p.Steps.map D.PolicyStep.cells))), (vI p.Repeat)]))], [], (vI (count p)), [], []⟩),
  (some 9, ⟨[(6, (.agg [(vS p.Name), (.p (.sl false 3 (p.Steps.map D.PolicyStep.cells))), (vI p.Repeat)])), (8, (vI (count p)))], [], (.tup [(vI ((offset p (count p)).1)), (vB ((offset p (count p)).2))]), [], []⟩),
  (some 5, ⟨[(9, (.tup [(vI ((offset p (count p)).1)), (vB ((offset p (count p)).2))]))], [], (.tup [(vI ((offset p (count p)).1)), (vB ((offset p (count p)).2))]), [], []⟩),
  (some 10, ⟨[(5, (.tup [(vI ((offset p (count p)).1)), (vB ((offset p (count p)).2))]))], [], (vI ((offset p (count p)).1)), [], []⟩),
  (some 11, ⟨[(5, (.tup [(vI ((offset p (count p)).1)), (vB ((offset p (count p)).2))]))], [], (vB ((offset p (count p)).2)), [], []⟩),
  (some 3, ⟨[(10, (vI ((offset p (count p)).1)))], [], (vI ((offset p (count p)).1)), [], []⟩),
  (some 4, ⟨[(11, (vB ((offset p (count p)).2)))], [], (vB ((offset p (count p)).2)), [], []⟩)]
  ⟨StepOK.p rfl rfl rfl (OpOK.loadBoxAgg (z := 3) rfl rfl (by kernel_rfl) (by kernel_rfl) rfl rfl),
  StepOK.p rfl rfl rfl (OpOK.loadBoxAgg (z := 3) rfl rfl (by kernel_rfl) (by kernel_rfl) rfl rfl),
  StepOK.p rfl rfl rfl (OpOK.call rfl (by kernel_rfl) rfl (pol_Count p (by first | omega | decide)) (by kernel_rfl)),
  StepOK.p rfl rfl rfl (OpOK.call rfl (by kernel_rfl) rfl (pol_Offset p (count p) (by first | omega | decide)) (by kernel_rfl)),
  StepOK.p rfl rfl rfl (OpOK.move rfl rfl),
  StepOK.p rfl rfl rfl (OpOK.extract rfl rfl rfl),
  StepOK.p rfl rfl rfl (OpOK.extract rfl rfl rfl),
  StepOK.p rfl rfl rfl (OpOK.assign rfl rfl),
  StepOK.p rfl rfl rfl (OpOK.assign rfl rfl), rfl⟩
  [(3, (vI ((offset p (count p)).1)))]
  []
  (by kernel_rfl) (by kernel_rfl) ?_
 refine AWp.s_region hGn hGk 
  [(some 12, ⟨[(3, (vI ((offset p (count p)).1)))], [], (vI ((offset p (count p)).1)), [], []⟩),
  (some 2, ⟨[(12, (vI ((offset p (count p)).1)))], [], (vI ((offset p (count p)).1)), [], []⟩)]
  ⟨StepOK.p rfl rfl rfl (OpOK.move rfl rfl),
  StepOK.p rfl rfl rfl (OpOK.assign rfl rfl), rfl⟩
  [(2, (vI ((offset p (count p)).1)))]
  []
  (by kernel_rfl) ?_
 refine AWp.ret ?_
 refine fin_of (.inr rfl) (v := (vI ((offset p (count p)).1))) (Res.tmp rfl rfl) (h' := []) rfl rfl ?_
 exact ⟨rfl, rfl⟩

theorem pol_Part (p : D.Policy) (k : Int) (hl : p.Steps.length ≤ 1000000) :
    SpecIs Try.prog 15 [(.agg [(vS p.Name), (.p (.sl false 3 (p.Steps.map D.PolicyStep.cells))), (vI p.Repeat)]), (vI k)] [] (.tup [(vI ((part p k).1)), (vI ((part p k).2.1)), (vB ((part p k).2.2))]) [] := by
 refine Spec.intro Try.func15 rfl (by kernel_rfl) ?_
 intro Γ hGn hGk
 replace hGn : Γ.n = 23 := hGn
 replace hGk : Γ.names = [] := hGk
 have hcl := count_le p
 refine AWp.weaken (mk [(0, (.agg [(vS p.Name), (.p (.sl false 3 (p.Steps.map D.PolicyStep.cells))), (vI p.Repeat)])), (1, (vI k))] []) (Weak.sub' hGk (by kernel_rfl)) ?_
 refine AWp.s_region hGn hGk 
  [(some 2, ⟨[(0, (.agg [(vS p.Name), (.p (.sl false 3 (p.Steps.map D.PolicyStep.cells))), (vI p.Repeat)]))], [], (.ref 1002 0), [(1002, (.box [(vS p.Name), (.p (.sl false 3 (p.Steps.map D.PolicyStep.cells))), (vI p.Repeat)]))], [1002]⟩),
  (some 4, ⟨[], [], (vI 0), [], []⟩),
  (some 5, ⟨[], [], (vI 0), [], []⟩),
  (some 6, ⟨[], [], (vB false), [], []⟩)]
  ⟨StepOK.p rfl rfl rfl (OpOK.box rfl rfl rfl),
  StepOK.p rfl rfl rfl (OpOK.assign rfl rfl),
  StepOK.p rfl rfl rfl (OpOK.assign rfl rfl),
  StepOK.p rfl rfl rfl (OpOK.assign rfl rfl), rfl⟩
  [(1, (vI k)), (2, (.ref 1002 0))]
  [(1002, (.box [(vS p.Name), (.p (.sl false 3 (p.Steps.map D.PolicyStep.cells))), (vI p.Repeat)]))]
  (by kernel_rfl) ?_
 refine AWp.seq ?_
 refine AWp.s_region hGn hGk 
  [(some 7, ⟨[(1, (vI k))], [], (vI k), [], []⟩),
  (some 8, ⟨[(2, (.ref 1002 0))], [(1002, (.box [(vS p.Name), (.p (.sl false 3 (p.Steps.map D.PolicyStep.cells))), (vI p.Repeat)]))], (.agg [(vS p.Name), (.p (.sl false 3 (p.Steps.map D.PolicyStep.cells))), (vI p.Repeat)]), [], []⟩),
  (some 9, ⟨[(8, (.agg [(vS p.Name), (.p (.sl false 3 (p.Steps.map D.PolicyStep.cells))), (vI p.Repeat)]))], [], (vI (count p)), [], []⟩),
  (some 10, ⟨[(9, (vI (count p)))], [], (vI ((count p) - 1)), [], []⟩),
  (some 11, ⟨[(7, (vI k)), (10, (vI ((count p) - 1)))], [], (vB (inB k 0 ((count p) - 1))), [], []⟩),
  (some 12, ⟨[(11, (vB (inB k 0 ((count p) - 1))))], [], (vB (!(inB k 0 ((count p) - 1)))), [], []⟩)]
  ⟨StepOK.p rfl rfl rfl (OpOK.move rfl rfl),
  StepOK.p rfl rfl rfl (OpOK.loadBoxAgg (z := 3) rfl rfl (by kernel_rfl) (by kernel_rfl) rfl rfl),
  StepOK.p rfl rfl rfl (OpOK.call rfl (by kernel_rfl) rfl (pol_Count p (by first | omega | decide)) (by kernel_rfl)),
  StepOK.p rfl rfl rfl (OpOK.sub rfl rfl rfl (IntWalk.i64_in _ ⟨by omega, by omega⟩)),
  StepOK.p rfl rfl rfl (OpOK.call rfl (by kernel_rfl) rfl (pol_in k 0 ((count p) - 1)) (by kernel_rfl)),
  StepOK.p rfl rfl rfl (OpOK.not rfl rfl rfl), rfl⟩
  [(1, (vI k)), (2, (.ref 1002 0)), (12, (vB (!(inB k 0 ((count p) - 1)))))]
  [(1002, (.box [(vS p.Name), (.p (.sl false 3 (p.Steps.map D.PolicyStep.cells))), (vI p.Repeat)]))]
  (by kernel_rfl) ?_
 refine AWp.cond (!(inB k 0 ((count p) - 1))) rfl (fun hc1 => ?_) (fun hc1 => ?_)
 ·skip
  replace hc1 : inB k 0 ((count p) - 1) = false := by simpa using hc1
  have ha2 := inB_false hc1
  refine AWp.s_region hGn hGk 
   [(some 4, ⟨[], [], (vI 0), [], []⟩),
   (some 5, ⟨[], [], (vI 0), [], []⟩),
   (some 6, ⟨[], [], (vB false), [], []⟩)]
   ⟨StepOK.p rfl rfl rfl (OpOK.assign rfl rfl),
   StepOK.p rfl rfl rfl (OpOK.assign rfl rfl),
   StepOK.p rfl rfl rfl (OpOK.assign rfl rfl), rfl⟩
   [(4, (vI 0)), (5, (vI 0)), (6, (vB false))]
   []
   (by kernel_rfl) ?_
  refine AWp.ret ?_
  refine nextQ_ret ?_
  refine fin_of (.inr rfl) (v := (.tup [(vI 0), (vI 0), (vB false)])) (Res.many (by kernel_rfl) (Res1s.cons (Res1.tmp rfl) (Res1s.cons (Res1.tmp rfl) (Res1s.cons (Res1.tmp rfl) Res1s.nil)))) (h' := []) rfl rfl ?_
  exact ⟨by simp [part, *], rfl⟩
 ·skip
  replace hc1 : inB k 0 ((count p) - 1) = true := by simpa using hc1
  have ha3 := inB_spec hc1
  refine AWp.skip ?_
  refine nextQ_normal ?_
  have hl0 := count_pos2 (p := p) (k := k) (by assumption)
  refine AWp.s_draw hGn hGk (by kernel_rfl)
   [(some 13, ⟨[(1, (vI k))], [], (vI k), [], []⟩),
   (some 14, ⟨[(2, (.ref 1002 0))], [(1002, (.box [(vS p.Name), (.p (.sl false 3 (p.Steps.map D.PolicyStep.cells))), (vI p.Repeat)]))], (.ref 1002 1), [], []⟩),
   (some 15, ⟨[(14, (.ref 1002 1))], [(1002, (.box [(vS p.Name), (.p (.sl false 3 (p.Steps.map D.PolicyStep.cells))), (vI p.Repeat)]))], (.p (.sl false 3 (p.Steps.map D.PolicyStep.cells))), [], []⟩),
   (some 16, ⟨[(15, (.p (.sl false 3 (p.Steps.map D.PolicyStep.cells))))], [], (vI ((p.Steps.length : Nat) : Int)), [], []⟩),
   (some 17, ⟨[(13, (vI k)), (16, (vI ((p.Steps.length : Nat) : Int)))], [], (vI (k % ((p.Steps.length : Nat) : Int))), [], []⟩),
   (some 18, ⟨[(1, (vI k))], [], (vI k), [], []⟩),
   (some 19, ⟨[(2, (.ref 1002 0))], [(1002, (.box [(vS p.Name), (.p (.sl false 3 (p.Steps.map D.PolicyStep.cells))), (vI p.Repeat)]))], (.ref 1002 1), [], []⟩),
   (some 20, ⟨[(19, (.ref 1002 1))], [(1002, (.box [(vS p.Name), (.p (.sl false 3 (p.Steps.map D.PolicyStep.cells))), (vI p.Repeat)]))], (.p (.sl false 3 (p.Steps.map D.PolicyStep.cells))), [], []⟩),
   (some 21, ⟨[(20, (.p (.sl false 3 (p.Steps.map D.PolicyStep.cells))))], [], (vI ((p.Steps.length : Nat) : Int)), [], []⟩),
   (some 22, ⟨[(18, (vI k)), (21, (vI ((p.Steps.length : Nat) : Int)))], [], (vI (k / ((p.Steps.length : Nat) : Int))), [], []⟩),
   (some 4, ⟨[(17, (vI (k % ((p.Steps.length : Nat) : Int))))], [], (vI (k % ((p.Steps.length : Nat) : Int))), [], []⟩),
   (some 5, ⟨[(22, (vI (k / ((p.Steps.length : Nat) : Int))))], [], (vI (k / ((p.Steps.length : Nat) : Int))), [], []⟩),
   (some 6, ⟨[], [], (vB true), [], []⟩)]
   ⟨StepOK.p rfl rfl rfl (OpOK.move rfl rfl),
   StepOK.p rfl rfl rfl (OpOK.fieldRef (fo := 1) rfl rfl (by kernel_rfl) rfl),
   StepOK.p rfl rfl rfl (OpOK.loadBox rfl rfl (by kernel_rfl) rfl),
   StepOK.p rfl rfl rfl (OpOK.lenP (e := 44) rfl rfl (by kernel_rfl) rfl (by rw [List.length_map])),
   StepOK.p rfl rfl rfl (OpOK.rem rfl rfl rfl (by omega) (Int.tmod_eq_emod_of_nonneg (by omega))),
   StepOK.p rfl rfl rfl (OpOK.move rfl rfl),
   StepOK.p rfl rfl rfl (OpOK.fieldRef (fo := 1) rfl rfl (by kernel_rfl) rfl),
   StepOK.p rfl rfl rfl (OpOK.loadBox rfl rfl (by kernel_rfl) rfl),
   StepOK.p rfl rfl rfl (OpOK.lenP (e := 44) rfl rfl (by kernel_rfl) rfl (by rw [List.length_map])),
   StepOK.p rfl rfl rfl (OpOK.quo rfl rfl rfl (by omega) (IntWalk.i64_quo _ _ ⟨by omega, by omega, by omega⟩)),
   StepOK.p rfl rfl rfl (OpOK.assign rfl rfl),
   StepOK.p rfl rfl rfl (OpOK.assign rfl rfl),
   StepOK.p rfl rfl rfl (OpOK.assign rfl rfl), rfl⟩
   [(4, (vI (k % ((p.Steps.length : Nat) : Int)))), (5, (vI (k / ((p.Steps.length : Nat) : Int)))), (6, (vB true))]
   []
   (by kernel_rfl) (by kernel_rfl) ?_
  refine AWp.ret ?_
  refine fin_of (.inr rfl) (v := (.tup [(vI (k % ((p.Steps.length : Nat) : Int))), (vI (k / ((p.Steps.length : Nat) : Int))), (vB true)])) (Res.many (by kernel_rfl) (Res1s.cons (Res1.tmp rfl) (Res1s.cons (Res1.tmp rfl) (Res1s.cons (Res1.tmp rfl) Res1s.nil)))) (h' := []) rfl rfl ?_
  exact ⟨by simp [part, *], rfl⟩

theorem pol_Started (p : D.Policy) (o : Int) (hl : p.Steps.length ≤ 1000000) :
    SpecIs Try.prog 13 [(.agg [(vS p.Name), (.p (.sl false 3 (p.Steps.map D.PolicyStep.cells))), (vI p.Repeat)]), (vI o)] [] (vI ((started p o : Nat) : Int)) [] := by
 refine Spec.intro Try.func13 rfl (by kernel_rfl) ?_
 intro Γ hGn hGk
 replace hGn : Γ.n = 28 := hGn
 replace hGk : Γ.names = [] := hGk
 have hol := offsets_len_le p
 refine AWp.weaken (mk [(0, (.agg [(vS p.Name), (.p (.sl false 3 (p.Steps.map D.PolicyStep.cells))), (vI p.Repeat)])), (1, (vI o))] []) (Weak.sub' hGk (by kernel_rfl)) ?_
 refine AWp.s_region hGn hGk 
  [(some 2, ⟨[(0, (.agg [(vS p.Name), (.p (.sl false 3 (p.Steps.map D.PolicyStep.cells))), (vI p.Repeat)]))], [], (.ref 1002 0), [(1002, (.box [(vS p.Name), (.p (.sl false 3 (p.Steps.map D.PolicyStep.cells))), (vI p.Repeat)]))], [1002]⟩),
  (some 4, ⟨[], [], (vI 0), [], []⟩)]
  ⟨StepOK.p rfl rfl rfl (OpOK.box rfl rfl rfl),
  StepOK.p rfl rfl rfl (OpOK.assign rfl rfl), rfl⟩
  [(1, (vI o)), (2, (.ref 1002 0))]
  [(1002, (.box [(vS p.Name), (.p (.sl false 3 (p.Steps.map D.PolicyStep.cells))), (vI p.Repeat)]))]
  (by kernel_rfl) ?_
 refine AWp.s_region hGn hGk 
  [(some 8, ⟨[(2, (.ref 1002 0))], [(1002, (.box [(vS p.Name), (.p (.sl false 3 (p.Steps.map D.PolicyStep.cells))), (vI p.Repeat)]))], (.agg [(vS p.Name), (.p (.sl false 3 (p.Steps.map D.PolicyStep.cells))), (vI p.Repeat)]), [], []⟩),
  (some 9, ⟨[(8, (.agg [(vS p.Name), (.p (.sl false 3 (p.Steps.map D.PolicyStep.cells))), (vI p.Repeat)]))], [], (.p (.sl false 1 ((offsets p).map D.cInt))), [], []⟩),
  (some 5, ⟨[(9, (.p (.sl false 1 ((offsets p).map D.cInt))))], [], (.p (.sl false 1 ((offsets p).map D.cInt))), [], []⟩)]
  ⟨StepOK.p rfl rfl rfl (OpOK.loadBoxAgg (z := 3) rfl rfl (by kernel_rfl) (by kernel_rfl) rfl rfl),
  StepOK.p rfl rfl rfl (OpOK.call rfl (by kernel_rfl) rfl (pol_offsets p (by omega)) (by kernel_rfl)),
  StepOK.p rfl rfl rfl (OpOK.assign rfl rfl), rfl⟩
  [(1, (vI o)), (5, (.p (.sl false 1 ((offsets p).map D.cInt))))]
  []
  (by kernel_rfl) ?_
 refine AWp.s_region hGn hGk 
  [(some 6, ⟨[], [], (vI 0), [], []⟩)]
  ⟨StepOK.p rfl rfl rfl (OpOK.assign rfl rfl), rfl⟩
  [(1, (vI o)), (5, (.p (.sl false 1 ((offsets p).map D.cInt)))), (6, (vI 0))]
  []
  (by kernel_rfl) ?_
 refine AWp.seq ?_
 refine AWp.s_region hGn hGk 
  [(some 7, ⟨[], [], (vI 0), [], []⟩)]
  ⟨StepOK.p rfl rfl rfl (OpOK.assign rfl rfl), rfl⟩
  [(1, (vI o)), (5, (.p (.sl false 1 ((offsets p).map D.cInt)))), (6, (vI 0)), (7, (vI 0))]
  []
  (by kernel_rfl) ?_
 refine AWp.block ?_
 refine AWp.loop (fun m s => ∃ j, s = (mk [(1, (vI o)), (5, (.p (.sl false 1 ((offsets p).map D.cInt)))), (6, (vI ((j : Nat) : Int))), (7, (vI ((j : Nat) : Int)))] []) ∧ (j + 1 ≤ (offsets p).length ∨ j = 0) ∧ (∀ i, i < j → nth (offsets p) i ≤ o) ∧ m = ((offsets p).length - j))
  ⟨_, 0, rfl, (by omega), (by intro i hi; omega), rfl⟩ ?_
 rintro mm1 s ⟨j, rfl, hj, hw, hmm1⟩
 refine AWp.seq ?_
 by_cases hs2 : ((j + 1 : Nat) : Int) < (((offsets p).length : Nat) : Int)
 ·skip
  refine AWp.s_region hGn hGk 
   [(some 10, ⟨[(7, (vI ((j : Nat) : Int)))], [], (vI ((j : Nat) : Int)), [], []⟩),
   (some 11, ⟨[(10, (vI ((j : Nat) : Int)))], [], (vI ((j + 1 : Nat) : Int)), [], []⟩),
   (some 12, ⟨[(5, (.p (.sl false 1 ((offsets p).map D.cInt))))], [], (.p (.sl false 1 ((offsets p).map D.cInt))), [], []⟩),
   (some 13, ⟨[(12, (.p (.sl false 1 ((offsets p).map D.cInt))))], [], (vI (((offsets p).length : Nat) : Int)), [], []⟩),
   (some 14, ⟨[(11, (vI ((j + 1 : Nat) : Int))), (13, (vI (((offsets p).length : Nat) : Int)))], [], (vB true), [], []⟩),
   (some 15, ⟨[(14, (vB true))], [], (vB true), [], []⟩),
   (some 16, ⟨[(5, (.p (.sl false 1 ((offsets p).map D.cInt)))), (15, (vB true))], [], (.p (.sl false 1 ((offsets p).map D.cInt))), [], []⟩),
   (some 17, ⟨[(7, (vI ((j : Nat) : Int))), (15, (vB true))], [], (vI ((j : Nat) : Int)), [], []⟩),
   (some 18, ⟨[(16, (.p (.sl false 1 ((offsets p).map D.cInt)))), (17, (vI ((j : Nat) : Int))), (15, (vB true))], [], (.eptr [(pI (nth (offsets p) j))]), [], []⟩),
   (some 19, ⟨[(18, (.eptr [(pI (nth (offsets p) j))])), (15, (vB true))], [], (vI (nth (offsets p) j)), [], []⟩),
   (some 20, ⟨[(1, (vI o)), (15, (vB true))], [], (vI o), [], []⟩),
   (some 21, ⟨[(19, (vI (nth (offsets p) j))), (20, (vI o)), (15, (vB true))], [], (vB (decide ((nth (offsets p) j) ≤ o))), [], []⟩),
   (some 22, ⟨[(15, (vB true)), (21, (vB (decide ((nth (offsets p) j) ≤ o))))], [], (vB (decide ((nth (offsets p) j) ≤ o))), [], []⟩)]
   ⟨StepOK.p rfl rfl rfl (OpOK.move rfl rfl),
   StepOK.p rfl rfl rfl (OpOK.add rfl rfl rfl (by rw [IntWalk.i64_in _ ⟨by omega, by omega⟩]; omega)),
   StepOK.p rfl rfl rfl (OpOK.move rfl rfl),
   StepOK.p rfl rfl rfl (OpOK.lenP (e := 3) rfl rfl (by kernel_rfl) rfl (by rw [List.length_map])),
   StepOK.p rfl rfl rfl (OpOK.lss rfl rfl rfl (decide_eq_true hs2)),
   StepOK.p rfl rfl rfl (OpOK.move rfl rfl),
   StepOK.g rfl rfl rfl rfl rfl (by simp) (OpOK.move rfl rfl),
   StepOK.g rfl rfl rfl rfl rfl (by simp) (OpOK.move rfl rfl),
   StepOK.g rfl rfl rfl rfl rfl (by simp) (OpOK.indexP (e := 3) rfl (by kernel_rfl) (by kernel_rfl) rfl rfl rfl (map_nth (by omega))),
   StepOK.g rfl rfl rfl rfl rfl (by simp) (OpOK.loadPtr rfl rfl (by kernel_rfl) rfl),
   StepOK.g rfl rfl rfl rfl rfl (by simp) (OpOK.move rfl rfl),
   StepOK.g rfl rfl rfl rfl rfl (by simp) (OpOK.leq rfl rfl rfl rfl),
   StepOK.p rfl rfl rfl (OpOK.pickT rfl rfl rfl), rfl⟩
   [(1, (vI o)), (5, (.p (.sl false 1 ((offsets p).map D.cInt)))), (6, (vI ((j : Nat) : Int))), (7, (vI ((j : Nat) : Int))), (22, (vB (decide ((nth (offsets p) j) ≤ o))))]
   []
   (by kernel_rfl) ?_
  refine AWp.cond (decide ((nth (offsets p) j) ≤ o)) rfl (fun hc3 => ?_) (fun hc3 => ?_)
  ·skip
   replace hc3 := of_decide_eq_true hc3
   refine AWp.skip ?_
   refine nextQ_normal ?_
   refine AWp.seq ?_
   refine AWp.block ?_
   refine AWp.region' hGn hGk 
    [(some 25, ⟨[(6, (vI ((j : Nat) : Int)))], [], (vI ((j : Nat) : Int)), [], []⟩),
    (some 26, ⟨[(25, (vI ((j : Nat) : Int)))], [], (vI ((j + 1 : Nat) : Int)), [], []⟩),
    (some 6, ⟨[(26, (vI ((j + 1 : Nat) : Int)))], [], (vI ((j + 1 : Nat) : Int)), [], []⟩)]
    ⟨StepOK.p rfl rfl rfl (OpOK.move rfl rfl),
    StepOK.p rfl rfl rfl (OpOK.add rfl rfl rfl (by rw [IntWalk.i64_in _ ⟨by omega, by omega⟩]; omega)),
    StepOK.p rfl rfl rfl (OpOK.assign rfl rfl), rfl⟩
    [(1, (vI o)), (5, (.p (.sl false 1 ((offsets p).map D.cInt)))), (6, (vI ((j + 1 : Nat) : Int))), (7, (vI ((j : Nat) : Int)))]
    []
    (by kernel_rfl) ?_
   refine blockQ_normal ?_
   refine nextQ_normal ?_
   refine AWp.region' hGn hGk 
    [(some 23, ⟨[(7, (vI ((j : Nat) : Int)))], [], (vI ((j : Nat) : Int)), [], []⟩),
    (some 24, ⟨[(23, (vI ((j : Nat) : Int)))], [], (vI ((j + 1 : Nat) : Int)), [], []⟩),
    (some 7, ⟨[(24, (vI ((j + 1 : Nat) : Int)))], [], (vI ((j + 1 : Nat) : Int)), [], []⟩)]
    ⟨StepOK.p rfl rfl rfl (OpOK.move rfl rfl),
    StepOK.p rfl rfl rfl (OpOK.add rfl rfl rfl (by rw [IntWalk.i64_in _ ⟨by omega, by omega⟩]; omega)),
    StepOK.p rfl rfl rfl (OpOK.assign rfl rfl), rfl⟩
    [(1, (vI o)), (5, (.p (.sl false 1 ((offsets p).map D.cInt)))), (6, (vI ((j + 1 : Nat) : Int))), (7, (vI ((j + 1 : Nat) : Int)))]
    []
    (by kernel_rfl) ?_
   refine nextQ_normal ⟨_, ?_, (j + 1), rfl, (.inl (by omega)), (fun i hi => by rcases Nat.lt_or_ge i j with h | h; exact hw i h; rw [show i = j from by omega]; assumption), rfl⟩
   · omega
  ·skip
   replace hc3 := of_decide_eq_false hc3
   refine AWp.weaken (mk [(6, (vI ((j : Nat) : Int)))] []) (Weak.sub' hGk (by kernel_rfl)) ?_
   refine AWp.exit ?_
   refine nextQ_exit ?_
   refine nextQ_exit ?_
   refine blockQ_exit ?_
   refine nextQ_normal ?_
   refine AWp.s_region hGn hGk 
    [(some 27, ⟨[(6, (vI ((j : Nat) : Int)))], [], (vI ((j : Nat) : Int)), [], []⟩),
    (some 4, ⟨[(27, (vI ((j : Nat) : Int)))], [], (vI ((j : Nat) : Int)), [], []⟩)]
    ⟨StepOK.p rfl rfl rfl (OpOK.move rfl rfl),
    StepOK.p rfl rfl rfl (OpOK.assign rfl rfl), rfl⟩
    [(4, (vI ((j : Nat) : Int)))]
    []
    (by kernel_rfl) ?_
   refine AWp.ret ?_
   refine fin_of (.inr rfl) (v := (vI ((j : Nat) : Int))) (Res.tmp rfl rfl) (h' := []) rfl rfl ?_
   exact ⟨by rw [started_eq hj hw (by first | (left; omega) | (right; assumption))], rfl⟩
 ·skip
  refine AWp.s_region hGn hGk 
   [(some 10, ⟨[(7, (vI ((j : Nat) : Int)))], [], (vI ((j : Nat) : Int)), [], []⟩),
   (some 11, ⟨[(10, (vI ((j : Nat) : Int)))], [], (vI ((j + 1 : Nat) : Int)), [], []⟩),
   (some 12, ⟨[(5, (.p (.sl false 1 ((offsets p).map D.cInt))))], [], (.p (.sl false 1 ((offsets p).map D.cInt))), [], []⟩),
   (some 13, ⟨[(12, (.p (.sl false 1 ((offsets p).map D.cInt))))], [], (vI (((offsets p).length : Nat) : Int)), [], []⟩),
   (some 14, ⟨[(11, (vI ((j + 1 : Nat) : Int))), (13, (vI (((offsets p).length : Nat) : Int)))], [], (vB false), [], []⟩),
   (some 15, ⟨[(14, (vB false))], [], (vB false), [], []⟩),
   (some 16, ⟨[(15, (vB false))], [], (.tup []), [], []⟩),
   (some 17, ⟨[(15, (vB false))], [], (.tup []), [], []⟩),
   (some 18, ⟨[(15, (vB false))], [], (.tup []), [], []⟩),
   (some 19, ⟨[(15, (vB false))], [], (.tup []), [], []⟩),
   (some 20, ⟨[(15, (vB false))], [], (.tup []), [], []⟩),
   (some 21, ⟨[(15, (vB false))], [], (.tup []), [], []⟩),
   (some 22, ⟨[(15, (vB false))], [], (vB false), [], []⟩)]
   ⟨StepOK.p rfl rfl rfl (OpOK.move rfl rfl),
   StepOK.p rfl rfl rfl (OpOK.add rfl rfl rfl (by rw [IntWalk.i64_in _ ⟨by omega, by omega⟩]; omega)),
   StepOK.p rfl rfl rfl (OpOK.move rfl rfl),
   StepOK.p rfl rfl rfl (OpOK.lenP (e := 3) rfl rfl (by kernel_rfl) rfl (by rw [List.length_map])),
   StepOK.p rfl rfl rfl (OpOK.lss rfl rfl rfl (decide_eq_false hs2)),
   StepOK.p rfl rfl rfl (OpOK.move rfl rfl),
   StepOK.k rfl rfl rfl rfl rfl rfl,
   StepOK.k rfl rfl rfl rfl rfl rfl,
   StepOK.k rfl rfl rfl rfl rfl rfl,
   StepOK.k rfl rfl rfl rfl rfl rfl,
   StepOK.k rfl rfl rfl rfl rfl rfl,
   StepOK.k rfl rfl rfl rfl rfl rfl,
   StepOK.p rfl rfl rfl (OpOK.pickF rfl rfl rfl), rfl⟩
   [(1, (vI o)), (5, (.p (.sl false 1 ((offsets p).map D.cInt)))), (6, (vI ((j : Nat) : Int))), (7, (vI ((j : Nat) : Int))), (22, (vB false))]
   []
   (by kernel_rfl) ?_
  refine AWp.cond_false rfl ?_
  refine AWp.weaken (mk [(6, (vI ((j : Nat) : Int)))] []) (Weak.sub' hGk (by kernel_rfl)) ?_
  refine AWp.exit ?_
  refine nextQ_exit ?_
  refine nextQ_exit ?_
  refine blockQ_exit ?_
  refine nextQ_normal ?_
  refine AWp.s_region hGn hGk 
   [(some 27, ⟨[(6, (vI ((j : Nat) : Int)))], [], (vI ((j : Nat) : Int)), [], []⟩),
   (some 4, ⟨[(27, (vI ((j : Nat) : Int)))], [], (vI ((j : Nat) : Int)), [], []⟩)]
   ⟨StepOK.p rfl rfl rfl (OpOK.move rfl rfl),
   StepOK.p rfl rfl rfl (OpOK.assign rfl rfl), rfl⟩
   [(4, (vI ((j : Nat) : Int)))]
   []
   (by kernel_rfl) ?_
  refine AWp.ret ?_
  refine fin_of (.inr rfl) (v := (vI ((j : Nat) : Int))) (Res.tmp rfl rfl) (h' := []) rfl rfl ?_
  exact ⟨by rw [started_eq hj hw (by first | (left; omega) | (right; assumption))], rfl⟩

theorem made_Light (L : List Int) :
    SpecIs Try.prog 6 [(.p (.sl false 1 (L.map D.cInt)))] [] (vB (decide (((L.length : Nat) : Int) ≤ (500 : Int)))) [] := by
 refine Spec.intro Try.func6 rfl (by kernel_rfl) ?_
 intro Γ hGn hGk
 replace hGn : Γ.n = 6 := hGn
 replace hGk : Γ.names = [] := hGk
 refine AWp.weaken (mk [(0, (.p (.sl false 1 (L.map D.cInt))))] []) (Weak.sub' hGk (by kernel_rfl)) ?_
 refine AWp.s_region hGn hGk 
  [(some 2, ⟨[], [], (vB false), [], []⟩)]
  ⟨StepOK.p rfl rfl rfl (OpOK.assign rfl rfl), rfl⟩
  [(0, (.p (.sl false 1 (L.map D.cInt))))]
  []
  (by kernel_rfl) ?_
 refine AWp.s_region hGn hGk 
  [(some 3, ⟨[(0, (.p (.sl false 1 (L.map D.cInt))))], [], (.p (.sl false 1 (L.map D.cInt))), [], []⟩),
  (some 4, ⟨[(3, (.p (.sl false 1 (L.map D.cInt))))], [], (vI ((L.length : Nat) : Int)), [], []⟩),
  (some 5, ⟨[(4, (vI ((L.length : Nat) : Int)))], [], (vB (decide (((L.length : Nat) : Int) ≤ (500 : Int)))), [], []⟩),
  (some 2, ⟨[(5, (vB (decide (((L.length : Nat) : Int) ≤ (500 : Int)))))], [], (vB (decide (((L.length : Nat) : Int) ≤ (500 : Int)))), [], []⟩)]
  ⟨StepOK.p rfl rfl rfl (OpOK.move rfl rfl),
  StepOK.p rfl rfl rfl (OpOK.lenP (e := 3) rfl rfl (by kernel_rfl) rfl (by rw [List.length_map])),
  StepOK.p rfl rfl rfl (OpOK.leq rfl rfl rfl rfl),
  StepOK.p rfl rfl rfl (OpOK.assign rfl rfl), rfl⟩
  [(2, (vB (decide (((L.length : Nat) : Int) ≤ (500 : Int)))))]
  []
  (by kernel_rfl) ?_
 refine AWp.ret ?_
 refine fin_of (.inr rfl) (v := (vB (decide (((L.length : Nat) : Int) ≤ (500 : Int))))) (Res.tmp rfl rfl) (h' := []) rfl rfl ?_
 exact ⟨rfl, rfl⟩

theorem made_Roll (L : List Int) :
    SpecIs Try.prog 8 [(.p (.sl false 1 (L.map D.cInt)))] [] (.ref 1 0) [(1, (.box [(.p (.sl false 1 (L.map D.cInt))), (vI 0)]))] := by
 refine Spec.intro Try.func8 rfl (by kernel_rfl) ?_
 intro Γ hGn hGk
 replace hGn : Γ.n = 6 := hGn
 replace hGk : Γ.names = [] := hGk
 refine AWp.weaken (mk [(0, (.p (.sl false 1 (L.map D.cInt))))] []) (Weak.sub' hGk (by kernel_rfl)) ?_
 refine AWp.s_region hGn hGk 
  [(some 2, ⟨[], [], (.p (.v (.pointer none))), [], []⟩)]
  ⟨StepOK.p rfl rfl rfl (OpOK.assign rfl rfl), rfl⟩
  [(0, (.p (.sl false 1 (L.map D.cInt))))]
  []
  (by kernel_rfl) ?_
 refine AWp.s_region hGn hGk 
  [(some 3, ⟨[(0, (.p (.sl false 1 (L.map D.cInt))))], [], (.p (.sl false 1 (L.map D.cInt))), [], []⟩),
  (some 4, ⟨[(3, (.p (.sl false 1 (L.map D.cInt))))], [], (.agg [(.p (.sl false 1 (L.map D.cInt))), (vI 0)]), [], []⟩),
  (some 5, ⟨[(4, (.agg [(.p (.sl false 1 (L.map D.cInt))), (vI 0)]))], [], (.ref 1 0), [(1, (.box [(.p (.sl false 1 (L.map D.cInt))), (vI 0)]))], [1]⟩),
  (some 2, ⟨[(5, (.ref 1 0))], [], (.ref 1 0), [], []⟩)]
  ⟨StepOK.p rfl rfl rfl (OpOK.move rfl rfl),
  StepOK.p rfl rfl rfl (OpOK.build (pl := [(0, 1), (1, 1)]) (zs := [(.p (.sl true 0 [])), (vI 0)]) rfl (by kernel_rfl) (by kernel_rfl) rfl),
  StepOK.p rfl rfl rfl (OpOK.box rfl rfl rfl),
  StepOK.p rfl rfl rfl (OpOK.assign rfl rfl), rfl⟩
  [(2, (.ref 1 0))]
  [(1, (.box [(.p (.sl false 1 (L.map D.cInt))), (vI 0)]))]
  (by kernel_rfl) ?_
 refine AWp.ret ?_
 refine fin_of (.inr rfl) (v := (.ref 1 0)) (Res.tmp rfl rfl) (h' := [(1, (.box [(.p (.sl false 1 (L.map D.cInt))), (vI 0)]))]) rfl rfl ?_
 exact ⟨rfl, rfl⟩

theorem made_Next (L : List Int) (i : Nat) (n : Int) (hL : L.length ≤ 500) (hi : i ≤ L.length) (hn : n ≤ 9223372036854775807) :
    SpecIs Try.prog 14 [(.ref 1 0), (vI n)] [(1, (.box [(.p (.sl false 1 (L.map D.cInt))), (vI ((i : Nat) : Int))]))] (vI ((nextN L i n : Nat) : Int)) [(1, (.box [(.p (.sl false 1 (L.map D.cInt))), (vI ((nextI L i n : Nat) : Int))]))] := by
 refine Spec.intro Try.func14 rfl (by kernel_rfl) ?_
 intro Γ hGn hGk
 replace hGn : Γ.n = 45 := hGn
 replace hGk : Γ.names = [1] := hGk
 refine AWp.weaken (mk [(0, (.ref 1 0)), (1, (vI n))] [(1, (.box [(.p (.sl false 1 (L.map D.cInt))), (vI ((i : Nat) : Int))]))]) (Weak.sub' hGk (by kernel_rfl)) ?_
 refine AWp.s_region hGn hGk 
  [(some 4, ⟨[], [], (vI 0), [], []⟩)]
  ⟨StepOK.p rfl rfl rfl (OpOK.assign rfl rfl), rfl⟩
  [(0, (.ref 1 0)), (1, (vI n))]
  [(1, (.box [(.p (.sl false 1 (L.map D.cInt))), (vI ((i : Nat) : Int))]))]
  (by kernel_rfl) ?_
 refine AWp.seq ?_
 by_cases hs1 : ((L.length : Nat) : Int) ≤ ((i : Nat) : Int)
 ·skip
  refine AWp.s_draw hGn hGk (by kernel_rfl)
   [(some 6, ⟨[(0, (.ref 1 0))], [], (.ref 1 0), [], []⟩),
   (some 7, ⟨[(6, (.ref 1 0))], [(1, (.box [(.p (.sl false 1 (L.map D.cInt))), (vI ((i : Nat) : Int))]))], (.ref 1 0), [], []⟩),
   (some 8, ⟨[(7, (.ref 1 0))], [(1, (.box [(.p (.sl false 1 (L.map D.cInt))), (vI ((i : Nat) : Int))]))], (.ref 1 1), [], []⟩),
   (some 9, ⟨[(8, (.ref 1 1))], [(1, (.box [(.p (.sl false 1 (L.map D.cInt))), (vI ((i : Nat) : Int))]))], (vI ((i : Nat) : Int)), [], []⟩),
   (some 10, ⟨[(0, (.ref 1 0))], [], (.ref 1 0), [], []⟩),
   (some 11, ⟨[(10, (.ref 1 0))], [(1, (.box [(.p (.sl false 1 (L.map D.cInt))), (vI ((i : Nat) : Int))]))], (.ref 1 0), [], []⟩),
   (some 12, ⟨[(11, (.ref 1 0))], [(1, (.box [(.p (.sl false 1 (L.map D.cInt))), (vI ((i : Nat) : Int))]))], (.ref 1 0), [], []⟩),
   (some 13, ⟨[(12, (.ref 1 0))], [(1, (.box [(.p (.sl false 1 (L.map D.cInt))), (vI ((i : Nat) : Int))]))], (.p (.sl false 1 (L.map D.cInt))), [], []⟩),
   (some 14, ⟨[(13, (.p (.sl false 1 (L.map D.cInt))))], [], (vI ((L.length : Nat) : Int)), [], []⟩),
   (some 15, ⟨[(9, (vI ((i : Nat) : Int))), (14, (vI ((L.length : Nat) : Int)))], [], (vB true), [], []⟩),
   (some 16, ⟨[(15, (vB true))], [], (vB true), [], []⟩),
   (some 17, ⟨[(16, (vB true))], [], (.tup []), [], []⟩),
   (some 18, ⟨[(16, (vB true))], [], (.tup []), [], []⟩),
   (some 19, ⟨[(16, (vB true))], [], (vB true), [], []⟩)]
   ⟨StepOK.p rfl rfl rfl (OpOK.move rfl rfl),
   StepOK.p rfl rfl rfl (OpOK.nilCheckRef rfl rfl),
   StepOK.p rfl rfl rfl (OpOK.fieldRef (fo := 1) rfl rfl (by kernel_rfl) rfl),
   StepOK.p rfl rfl rfl (OpOK.loadBox rfl rfl (by kernel_rfl) rfl),
   StepOK.p rfl rfl rfl (OpOK.move rfl rfl),
   StepOK.p rfl rfl rfl (OpOK.nilCheckRef rfl rfl),
   StepOK.p rfl rfl rfl (OpOK.fieldRef (fo := 0) rfl rfl (by kernel_rfl) rfl),
   StepOK.p rfl rfl rfl (OpOK.loadBox rfl rfl (by kernel_rfl) rfl),
   StepOK.p rfl rfl rfl (OpOK.lenP (e := 3) rfl rfl (by kernel_rfl) rfl (by rw [List.length_map])),
   StepOK.p rfl rfl rfl (OpOK.geq rfl rfl rfl (decide_eq_true hs1)),
   StepOK.p rfl rfl rfl (OpOK.move rfl rfl),
   StepOK.k rfl rfl rfl rfl rfl rfl,
   StepOK.k rfl rfl rfl rfl rfl rfl,
   StepOK.p rfl rfl rfl (OpOK.pickT rfl rfl rfl), rfl⟩
   [(0, (.ref 1 0)), (1, (vI n)), (19, (vB true))]
   [(1, (.box [(.p (.sl false 1 (L.map D.cInt))), (vI ((i : Nat) : Int))]))]
   (by kernel_rfl) (by kernel_rfl) ?_
  refine AWp.cond_true rfl ?_
  refine AWp.s_region hGn hGk 
   [(some 4, ⟨[], [], (vI 0), [], []⟩)]
   ⟨StepOK.p rfl rfl rfl (OpOK.assign rfl rfl), rfl⟩
   [(4, (vI 0))]
   [(1, (.box [(.p (.sl false 1 (L.map D.cInt))), (vI ((i : Nat) : Int))]))]
   (by kernel_rfl) ?_
  refine AWp.ret ?_
  refine nextQ_ret ?_
  refine fin_of (.inr rfl) (v := (vI 0)) (Res.tmp rfl rfl) (h' := [(1, (.box [(.p (.sl false 1 (L.map D.cInt))), (vI ((i : Nat) : Int))]))]) rfl rfl ?_
  exact ⟨by rw [nextN_cast, (next_end (L := L) (i := i) (n := n) (by omega)).1], by rw [(next_end (L := L) (i := i) (n := n) (by omega)).2]⟩
 ·skip
  refine AWp.s_draw hGn hGk (by kernel_rfl)
   [(some 6, ⟨[(0, (.ref 1 0))], [], (.ref 1 0), [], []⟩),
   (some 7, ⟨[(6, (.ref 1 0))], [(1, (.box [(.p (.sl false 1 (L.map D.cInt))), (vI ((i : Nat) : Int))]))], (.ref 1 0), [], []⟩),
   (some 8, ⟨[(7, (.ref 1 0))], [(1, (.box [(.p (.sl false 1 (L.map D.cInt))), (vI ((i : Nat) : Int))]))], (.ref 1 1), [], []⟩),
   (some 9, ⟨[(8, (.ref 1 1))], [(1, (.box [(.p (.sl false 1 (L.map D.cInt))), (vI ((i : Nat) : Int))]))], (vI ((i : Nat) : Int)), [], []⟩),
   (some 10, ⟨[(0, (.ref 1 0))], [], (.ref 1 0), [], []⟩),
   (some 11, ⟨[(10, (.ref 1 0))], [(1, (.box [(.p (.sl false 1 (L.map D.cInt))), (vI ((i : Nat) : Int))]))], (.ref 1 0), [], []⟩),
   (some 12, ⟨[(11, (.ref 1 0))], [(1, (.box [(.p (.sl false 1 (L.map D.cInt))), (vI ((i : Nat) : Int))]))], (.ref 1 0), [], []⟩),
   (some 13, ⟨[(12, (.ref 1 0))], [(1, (.box [(.p (.sl false 1 (L.map D.cInt))), (vI ((i : Nat) : Int))]))], (.p (.sl false 1 (L.map D.cInt))), [], []⟩),
   (some 14, ⟨[(13, (.p (.sl false 1 (L.map D.cInt))))], [], (vI ((L.length : Nat) : Int)), [], []⟩),
   (some 15, ⟨[(9, (vI ((i : Nat) : Int))), (14, (vI ((L.length : Nat) : Int)))], [], (vB false), [], []⟩),
   (some 16, ⟨[(15, (vB false))], [], (vB false), [], []⟩),
   (some 17, ⟨[(1, (vI n)), (16, (vB false))], [], (vI n), [], []⟩),
   (some 18, ⟨[(17, (vI n)), (16, (vB false))], [], (vB (decide (n < (1 : Int)))), [], []⟩),
   (some 19, ⟨[(16, (vB false)), (18, (vB (decide (n < (1 : Int)))))], [], (vB (decide (n < (1 : Int)))), [], []⟩)]
   ⟨StepOK.p rfl rfl rfl (OpOK.move rfl rfl),
   StepOK.p rfl rfl rfl (OpOK.nilCheckRef rfl rfl),
   StepOK.p rfl rfl rfl (OpOK.fieldRef (fo := 1) rfl rfl (by kernel_rfl) rfl),
   StepOK.p rfl rfl rfl (OpOK.loadBox rfl rfl (by kernel_rfl) rfl),
   StepOK.p rfl rfl rfl (OpOK.move rfl rfl),
   StepOK.p rfl rfl rfl (OpOK.nilCheckRef rfl rfl),
   StepOK.p rfl rfl rfl (OpOK.fieldRef (fo := 0) rfl rfl (by kernel_rfl) rfl),
   StepOK.p rfl rfl rfl (OpOK.loadBox rfl rfl (by kernel_rfl) rfl),
   StepOK.p rfl rfl rfl (OpOK.lenP (e := 3) rfl rfl (by kernel_rfl) rfl (by rw [List.length_map])),
   StepOK.p rfl rfl rfl (OpOK.geq rfl rfl rfl (decide_eq_false hs1)),
   StepOK.p rfl rfl rfl (OpOK.move rfl rfl),
   StepOK.g rfl rfl rfl rfl rfl (by simp) (OpOK.move rfl rfl),
   StepOK.g rfl rfl rfl rfl rfl (by simp) (OpOK.lss rfl rfl rfl rfl),
   StepOK.p rfl rfl rfl (OpOK.pickF rfl rfl rfl), rfl⟩
   [(0, (.ref 1 0)), (1, (vI n)), (19, (vB (decide (n < (1 : Int)))))]
   [(1, (.box [(.p (.sl false 1 (L.map D.cInt))), (vI ((i : Nat) : Int))]))]
   (by kernel_rfl) (by kernel_rfl) ?_
  refine AWp.cond (decide (n < (1 : Int))) rfl (fun hc2 => ?_) (fun hc2 => ?_)
  ·skip
   replace hc2 := of_decide_eq_true hc2
   refine AWp.s_region hGn hGk 
    [(some 4, ⟨[], [], (vI 0), [], []⟩)]
    ⟨StepOK.p rfl rfl rfl (OpOK.assign rfl rfl), rfl⟩
    [(4, (vI 0))]
    [(1, (.box [(.p (.sl false 1 (L.map D.cInt))), (vI ((i : Nat) : Int))]))]
    (by kernel_rfl) ?_
   refine AWp.ret ?_
   refine nextQ_ret ?_
   refine fin_of (.inr rfl) (v := (vI 0)) (Res.tmp rfl rfl) (h' := [(1, (.box [(.p (.sl false 1 (L.map D.cInt))), (vI ((i : Nat) : Int))]))]) rfl rfl ?_
   exact ⟨by rw [nextN_cast, (next_end (L := L) (i := i) (n := n) (by omega)).1], by rw [(next_end (L := L) (i := i) (n := n) (by omega)).2]⟩
  ·skip
   replace hc2 := of_decide_eq_false hc2
   refine AWp.skip ?_
   refine nextQ_normal ?_
   refine AWp.s_draw hGn hGk (by kernel_rfl)
    [(some 20, ⟨[(0, (.ref 1 0))], [], (.ref 1 0), [], []⟩),
    (some 21, ⟨[(20, (.ref 1 0))], [(1, (.box [(.p (.sl false 1 (L.map D.cInt))), (vI ((i : Nat) : Int))]))], (.ref 1 0), [], []⟩),
    (some 22, ⟨[(21, (.ref 1 0))], [(1, (.box [(.p (.sl false 1 (L.map D.cInt))), (vI ((i : Nat) : Int))]))], (.ref 1 0), [], []⟩),
    (some 23, ⟨[(22, (.ref 1 0))], [(1, (.box [(.p (.sl false 1 (L.map D.cInt))), (vI ((i : Nat) : Int))]))], (.p (.sl false 1 (L.map D.cInt))), [], []⟩),
    (some 24, ⟨[(0, (.ref 1 0))], [], (.ref 1 0), [], []⟩),
    (some 25, ⟨[(24, (.ref 1 0))], [(1, (.box [(.p (.sl false 1 (L.map D.cInt))), (vI ((i : Nat) : Int))]))], (.ref 1 0), [], []⟩),
    (some 26, ⟨[(25, (.ref 1 0))], [(1, (.box [(.p (.sl false 1 (L.map D.cInt))), (vI ((i : Nat) : Int))]))], (.ref 1 1), [], []⟩),
    (some 27, ⟨[(26, (.ref 1 1))], [(1, (.box [(.p (.sl false 1 (L.map D.cInt))), (vI ((i : Nat) : Int))]))], (vI ((i : Nat) : Int)), [], []⟩),
    (some 28, ⟨[(23, (.p (.sl false 1 (L.map D.cInt)))), (27, (vI ((i : Nat) : Int)))], [], (.eptr [(pI (nth L i))]), [], []⟩),
    (some 29, ⟨[(28, (.eptr [(pI (nth L i))]))], [], (vI (nth L i)), [], []⟩),
    (some 30, ⟨[(1, (vI n))], [], (vI n), [], []⟩),
    (some 31, ⟨[(29, (vI (nth L i))), (30, (vI n))], [], (vI ((nth L i).tmod n)), [], []⟩),
    (some 5, ⟨[(31, (vI ((nth L i).tmod n)))], [], (vI ((nth L i).tmod n)), [], []⟩)]
    ⟨StepOK.p rfl rfl rfl (OpOK.move rfl rfl),
    StepOK.p rfl rfl rfl (OpOK.nilCheckRef rfl rfl),
    StepOK.p rfl rfl rfl (OpOK.fieldRef (fo := 0) rfl rfl (by kernel_rfl) rfl),
    StepOK.p rfl rfl rfl (OpOK.loadBox rfl rfl (by kernel_rfl) rfl),
    StepOK.p rfl rfl rfl (OpOK.move rfl rfl),
    StepOK.p rfl rfl rfl (OpOK.nilCheckRef rfl rfl),
    StepOK.p rfl rfl rfl (OpOK.fieldRef (fo := 1) rfl rfl (by kernel_rfl) rfl),
    StepOK.p rfl rfl rfl (OpOK.loadBox rfl rfl (by kernel_rfl) rfl),
    StepOK.p rfl rfl rfl (OpOK.indexP (e := 3) rfl (by kernel_rfl) (by kernel_rfl) rfl rfl rfl (map_nth (by omega))),
    StepOK.p rfl rfl rfl (OpOK.loadPtr rfl rfl (by kernel_rfl) rfl),
    StepOK.p rfl rfl rfl (OpOK.move rfl rfl),
    StepOK.p rfl rfl rfl (OpOK.rem rfl rfl rfl (by omega) rfl),
    StepOK.p rfl rfl rfl (OpOK.assign rfl rfl), rfl⟩
    [(0, (.ref 1 0)), (1, (vI n)), (5, (vI ((nth L i).tmod n)))]
    [(1, (.box [(.p (.sl false 1 (L.map D.cInt))), (vI ((i : Nat) : Int))]))]
    (by kernel_rfl) (by kernel_rfl) ?_
   refine AWp.s_region hGn hGk 
    [(some 32, ⟨[(0, (.ref 1 0))], [], (.ref 1 0), [], []⟩),
    (some 33, ⟨[(32, (.ref 1 0))], [(1, (.box [(.p (.sl false 1 (L.map D.cInt))), (vI ((i : Nat) : Int))]))], (.ref 1 0), [], []⟩),
    (some 34, ⟨[(33, (.ref 1 0))], [(1, (.box [(.p (.sl false 1 (L.map D.cInt))), (vI ((i : Nat) : Int))]))], (.ref 1 1), [], []⟩),
    (some 35, ⟨[(34, (.ref 1 1))], [(1, (.box [(.p (.sl false 1 (L.map D.cInt))), (vI ((i : Nat) : Int))]))], (vI ((i : Nat) : Int)), [], []⟩),
    (some 36, ⟨[(35, (vI ((i : Nat) : Int)))], [], (vI ((i + 1 : Nat) : Int)), [], []⟩),
    (some 37, ⟨[(32, (.ref 1 0))], [(1, (.box [(.p (.sl false 1 (L.map D.cInt))), (vI ((i : Nat) : Int))]))], (.ref 1 0), [], []⟩),
    (some 38, ⟨[(37, (.ref 1 0))], [(1, (.box [(.p (.sl false 1 (L.map D.cInt))), (vI ((i : Nat) : Int))]))], (.ref 1 1), [], []⟩),
    (none, ⟨[(38, (.ref 1 1)), (36, (vI ((i + 1 : Nat) : Int)))], [(1, (.box [(.p (.sl false 1 (L.map D.cInt))), (vI ((i : Nat) : Int))]))], .any, [(1, (.box [(.p (.sl false 1 (L.map D.cInt))), (vI ((i + 1 : Nat) : Int))]))], []⟩)]
    ⟨StepOK.p rfl rfl rfl (OpOK.move rfl rfl),
    StepOK.p rfl rfl rfl (OpOK.nilCheckRef rfl rfl),
    StepOK.p rfl rfl rfl (OpOK.fieldRef (fo := 1) rfl rfl (by kernel_rfl) rfl),
    StepOK.p rfl rfl rfl (OpOK.loadBox rfl rfl (by kernel_rfl) rfl),
    StepOK.p rfl rfl rfl (OpOK.add rfl rfl rfl (by rw [IntWalk.i64_in _ ⟨by omega, by omega⟩]; omega)),
    StepOK.p rfl rfl rfl (OpOK.nilCheckRef rfl rfl),
    StepOK.p rfl rfl rfl (OpOK.fieldRef (fo := 1) rfl rfl (by kernel_rfl) rfl),
    StepOK.p rfl rfl rfl (OpOK.storeBox rfl rfl rfl rfl rfl (by kernel_rfl) (by kernel_rfl) rfl), rfl⟩
    [(1, (vI n)), (5, (vI ((nth L i).tmod n)))]
    [(1, (.box [(.p (.sl false 1 (L.map D.cInt))), (vI ((i + 1 : Nat) : Int))]))]
    (by kernel_rfl) ?_
   refine AWp.seq ?_
   refine AWp.s_region hGn hGk 
    [(some 39, ⟨[(5, (vI ((nth L i).tmod n)))], [], (vI ((nth L i).tmod n)), [], []⟩),
    (some 40, ⟨[(39, (vI ((nth L i).tmod n)))], [], (vB (decide (((nth L i).tmod n) < (0 : Int)))), [], []⟩)]
    ⟨StepOK.p rfl rfl rfl (OpOK.move rfl rfl),
    StepOK.p rfl rfl rfl (OpOK.lss rfl rfl rfl rfl), rfl⟩
    [(1, (vI n)), (5, (vI ((nth L i).tmod n))), (40, (vB (decide (((nth L i).tmod n) < (0 : Int)))))]
    [(1, (.box [(.p (.sl false 1 (L.map D.cInt))), (vI ((i + 1 : Nat) : Int))]))]
    (by kernel_rfl) ?_
   refine AWp.cond (decide (((nth L i).tmod n) < (0 : Int))) rfl (fun hc3 => ?_) (fun hc3 => ?_)
   ·skip
    replace hc3 := of_decide_eq_true hc3
    refine AWp.region' hGn hGk 
     [(some 41, ⟨[(5, (vI ((nth L i).tmod n)))], [], (vI ((nth L i).tmod n)), [], []⟩),
     (some 42, ⟨[(1, (vI n))], [], (vI n), [], []⟩),
     (some 43, ⟨[(41, (vI ((nth L i).tmod n))), (42, (vI n))], [], (vI ((nth L i).tmod n + n)), [], []⟩),
     (some 5, ⟨[(43, (vI ((nth L i).tmod n + n)))], [], (vI ((nth L i).tmod n + n)), [], []⟩)]
     ⟨StepOK.p rfl rfl rfl (OpOK.move rfl rfl),
     StepOK.p rfl rfl rfl (OpOK.move rfl rfl),
     StepOK.p rfl rfl rfl (OpOK.add rfl rfl rfl (IntWalk.i64_in _ (by have := tmod_in (a := nth L i) (n := n) (by omega); omega))),
     StepOK.p rfl rfl rfl (OpOK.assign rfl rfl), rfl⟩
     [(5, (vI ((nth L i).tmod n + n)))]
     [(1, (.box [(.p (.sl false 1 (L.map D.cInt))), (vI ((i + 1 : Nat) : Int))]))]
     (by kernel_rfl) ?_
    refine nextQ_normal ?_
    refine AWp.s_region hGn hGk 
     [(some 44, ⟨[(5, (vI ((nth L i).tmod n + n)))], [], (vI ((nth L i).tmod n + n)), [], []⟩),
     (some 4, ⟨[(44, (vI ((nth L i).tmod n + n)))], [], (vI ((nth L i).tmod n + n)), [], []⟩)]
     ⟨StepOK.p rfl rfl rfl (OpOK.move rfl rfl),
     StepOK.p rfl rfl rfl (OpOK.assign rfl rfl), rfl⟩
     [(4, (vI ((nth L i).tmod n + n)))]
     [(1, (.box [(.p (.sl false 1 (L.map D.cInt))), (vI ((i + 1 : Nat) : Int))]))]
     (by kernel_rfl) ?_
    refine AWp.ret ?_
    refine fin_of (.inr rfl) (v := (vI ((nth L i).tmod n + n))) (Res.tmp rfl rfl) (h' := [(1, (.box [(.p (.sl false 1 (L.map D.cInt))), (vI ((i + 1 : Nat) : Int))]))]) rfl rfl ?_
    exact ⟨by rw [nextN_cast, (next_neg (L := L) (i := i) (n := n) (by omega) (by omega) (by omega)).1], by rw [(next_neg (L := L) (i := i) (n := n) (by omega) (by omega) (by omega)).2]⟩
   ·skip
    replace hc3 := of_decide_eq_false hc3
    refine AWp.skip ?_
    refine nextQ_normal ?_
    refine AWp.s_region hGn hGk 
     [(some 44, ⟨[(5, (vI ((nth L i).tmod n)))], [], (vI ((nth L i).tmod n)), [], []⟩),
     (some 4, ⟨[(44, (vI ((nth L i).tmod n)))], [], (vI ((nth L i).tmod n)), [], []⟩)]
     ⟨StepOK.p rfl rfl rfl (OpOK.move rfl rfl),
     StepOK.p rfl rfl rfl (OpOK.assign rfl rfl), rfl⟩
     [(4, (vI ((nth L i).tmod n)))]
     [(1, (.box [(.p (.sl false 1 (L.map D.cInt))), (vI ((i + 1 : Nat) : Int))]))]
     (by kernel_rfl) ?_
    refine AWp.ret ?_
    refine fin_of (.inr rfl) (v := (vI ((nth L i).tmod n))) (Res.tmp rfl rfl) (h' := [(1, (.box [(.p (.sl false 1 (L.map D.cInt))), (vI ((i + 1 : Nat) : Int))]))]) rfl rfl ?_
    exact ⟨by rw [nextN_cast, (next_pos (L := L) (i := i) (n := n) (by omega) (by omega) (by omega)).1], by rw [(next_pos (L := L) (i := i) (n := n) (by omega) (by omega) (by omega)).2]⟩

theorem made_One (L : List Int) (i : Nat) (l : List Int) (f : Bool) (hL : L.length ≤ 500) (hi : i ≤ L.length) (hl : 1 ≤ l.length ∧ l.length ≤ 1000) :
    SpecIs Try.prog 22 [(.ref 1 0), (.p (.sl f 1 (l.map D.cInt)))] [(1, (.box [(.p (.sl false 1 (L.map D.cInt))), (vI ((i : Nat) : Int))]))] (vI (oneV L i l)) [(1, (.box [(.p (.sl false 1 (L.map D.cInt))), (vI ((oneI L i l : Nat) : Int))]))] := by
 refine Spec.intro Try.func22 rfl (by kernel_rfl) ?_
 intro Γ hGn hGk
 replace hGn : Γ.n = 12 := hGn
 replace hGk : Γ.names = [1] := hGk
 have hb := nextN_lt L i ((l.length : Nat) : Int) (by omega)
 refine AWp.weaken (mk [(0, (.ref 1 0)), (1, (.p (.sl f 1 (l.map D.cInt))))] [(1, (.box [(.p (.sl false 1 (L.map D.cInt))), (vI ((i : Nat) : Int))]))]) (Weak.sub' hGk (by kernel_rfl)) ?_
 refine AWp.s_region hGn hGk 
  [(some 4, ⟨[], [], (vI 0), [], []⟩)]
  ⟨StepOK.p rfl rfl rfl (OpOK.assign rfl rfl), rfl⟩
  [(0, (.ref 1 0)), (1, (.p (.sl f 1 (l.map D.cInt))))]
  [(1, (.box [(.p (.sl false 1 (L.map D.cInt))), (vI ((i : Nat) : Int))]))]
  (by kernel_rfl) ?_
 refine AWp.s_region hGn hGk 
  [(some 5, ⟨[(1, (.p (.sl f 1 (l.map D.cInt))))], [], (.p (.sl f 1 (l.map D.cInt))), [], []⟩),
  (some 6, ⟨[(0, (.ref 1 0))], [], (.ref 1 0), [], []⟩),
  (some 7, ⟨[(1, (.p (.sl f 1 (l.map D.cInt))))], [], (.p (.sl f 1 (l.map D.cInt))), [], []⟩),
  (some 8, ⟨[(7, (.p (.sl f 1 (l.map D.cInt))))], [], (vI ((l.length : Nat) : Int)), [], []⟩),
  (some 9, ⟨[(6, (.ref 1 0)), (8, (vI ((l.length : Nat) : Int)))], [(1, (.box [(.p (.sl false 1 (L.map D.cInt))), (vI ((i : Nat) : Int))]))], (vI ((nextN L i ((l.length : Nat) : Int) : Nat) : Int)), [(1, (.box [(.p (.sl false 1 (L.map D.cInt))), (vI ((nextI L i ((l.length : Nat) : Int) : Nat) : Int))]))], []⟩),
  (some 10, ⟨[(5, (.p (.sl f 1 (l.map D.cInt)))), (9, (vI ((nextN L i ((l.length : Nat) : Int) : Nat) : Int)))], [], (.eptr [(pI (nth l (nextN L i ((l.length : Nat) : Int))))]), [], []⟩),
  (some 11, ⟨[(10, (.eptr [(pI (nth l (nextN L i ((l.length : Nat) : Int))))]))], [], (vI (nth l (nextN L i ((l.length : Nat) : Int)))), [], []⟩),
  (some 4, ⟨[(11, (vI (nth l (nextN L i ((l.length : Nat) : Int)))))], [], (vI (nth l (nextN L i ((l.length : Nat) : Int)))), [], []⟩)]
  ⟨StepOK.p rfl rfl rfl (OpOK.move rfl rfl),
  StepOK.p rfl rfl rfl (OpOK.move rfl rfl),
  StepOK.p rfl rfl rfl (OpOK.move rfl rfl),
  StepOK.p rfl rfl rfl (OpOK.lenP (e := 3) rfl rfl (by kernel_rfl) rfl (by rw [List.length_map])),
  StepOK.p rfl rfl rfl (OpOK.call rfl (by kernel_rfl) rfl (made_Next L i ((l.length : Nat) : Int) hL (by repeat (first | assumption | exact Nat.zero_le _ | apply nextI_le | apply oneI_le | apply targetI_le | apply teamI_le | apply stepI_le | apply policyI_le)) (by omega)) (by kernel_rfl)),
  StepOK.p rfl rfl rfl (OpOK.indexP (e := 3) rfl (by kernel_rfl) (by kernel_rfl) rfl rfl rfl (map_nth (by omega))),
  StepOK.p rfl rfl rfl (OpOK.loadPtr rfl rfl (by kernel_rfl) rfl),
  StepOK.p rfl rfl rfl (OpOK.assign rfl rfl), rfl⟩
  [(4, (vI (nth l (nextN L i ((l.length : Nat) : Int)))))]
  [(1, (.box [(.p (.sl false 1 (L.map D.cInt))), (vI ((nextI L i ((l.length : Nat) : Int) : Nat) : Int))]))]
  (by kernel_rfl) ?_
 refine AWp.ret ?_
 refine fin_of (.inr rfl) (v := (vI (nth l (nextN L i ((l.length : Nat) : Int))))) (Res.tmp rfl rfl) (h' := [(1, (.box [(.p (.sl false 1 (L.map D.cInt))), (vI ((nextI L i ((l.length : Nat) : Int) : Nat) : Int))]))]) rfl rfl ?_
 exact ⟨rfl, rfl⟩

theorem made_Target (L : List Int) (i : Nat) (ts : List D.Team) (f : Bool) (hL : L.length ≤ 500) (hi : i ≤ L.length) (ht : ts.length ≤ 100) :
    SpecIs Try.prog 23 [(.ref 1 0), (.agg [(.p (.sl f 2 (ts.map D.Team.cells))), .any])] [(1, (.box [(.p (.sl false 1 (L.map D.cInt))), (vI ((i : Nat) : Int))]))] (.agg [(vI ((target L i ts.length).Kind)), (vI ((target L i ts.length).Index))]) [(1, (.box [(.p (.sl false 1 (L.map D.cInt))), (vI ((targetI L i ts.length : Nat) : Int))]))] := by
 refine Spec.intro Try.func23 rfl (by kernel_rfl) ?_
 intro Γ hGn hGk
 replace hGn : Γ.n = 29 := hGn
 replace hGk : Γ.names = [1] := hGk
 have hb := nextN_lt L i 3 (by omega)
 have hb2 := nth3_le (ts.length : Int) (nextN L i 3) (by omega)
 refine AWp.weaken (mk [(0, (.ref 1 0)), (1, (.agg [(.p (.sl f 2 (ts.map D.Team.cells))), .any]))] [(1, (.box [(.p (.sl false 1 (L.map D.cInt))), (vI ((i : Nat) : Int))]))]) (Weak.sub' hGk (by kernel_rfl)) ?_
 refine AWp.s_region hGn hGk 
  [(some 3, ⟨[(1, (.agg [(.p (.sl f 2 (ts.map D.Team.cells))), .any]))], [], (.ref 1003 0), [(1003, (.box [(.p (.sl f 2 (ts.map D.Team.cells))), .any]))], [1003]⟩),
  (some 4, ⟨[], [], (.ref 1004 0), [(1004, (.box [(vI 0), (vI 0)]))], [1004]⟩)]
  ⟨StepOK.p rfl rfl rfl (OpOK.box rfl rfl rfl),
  StepOK.p rfl rfl rfl (OpOK.alloc rfl (by kernel_rfl)), rfl⟩
  [(0, (.ref 1 0)), (3, (.ref 1003 0)), (4, (.ref 1004 0))]
  [(1, (.box [(.p (.sl false 1 (L.map D.cInt))), (vI ((i : Nat) : Int))])), (1003, (.box [(.p (.sl f 2 (ts.map D.Team.cells))), .any])), (1004, (.box [(vI 0), (vI 0)]))]
  (by kernel_rfl) ?_
 have hf1 := nextN_lt L i 3 (by omega)
 refine AWp.s_region hGn hGk 
  [(some 7, ⟨[(0, (.ref 1 0))], [], (.ref 1 0), [], []⟩),
  (some 8, ⟨[(7, (.ref 1 0))], [(1, (.box [(.p (.sl false 1 (L.map D.cInt))), (vI ((i : Nat) : Int))]))], (vI ((nextN L i 3 : Nat) : Int)), [(1, (.box [(.p (.sl false 1 (L.map D.cInt))), (vI ((nextI L i 3 : Nat) : Int))]))], []⟩),
  (some 5, ⟨[(8, (vI ((nextN L i 3 : Nat) : Int)))], [], (vI ((nextN L i 3 : Nat) : Int)), [], []⟩)]
  ⟨StepOK.p rfl rfl rfl (OpOK.move rfl rfl),
  StepOK.p rfl rfl rfl (OpOK.call rfl (by kernel_rfl) rfl (made_Next L i 3 hL (by repeat (first | assumption | exact Nat.zero_le _ | apply nextI_le | apply oneI_le | apply targetI_le | apply teamI_le | apply stepI_le | apply policyI_le)) (by omega)) (by kernel_rfl)),
  StepOK.p rfl rfl rfl (OpOK.assign rfl rfl), rfl⟩
  [(0, (.ref 1 0)), (3, (.ref 1003 0)), (4, (.ref 1004 0)), (5, (vI ((nextN L i 3 : Nat) : Int)))]
  [(1, (.box [(.p (.sl false 1 (L.map D.cInt))), (vI ((nextI L i 3 : Nat) : Int))])), (1003, (.box [(.p (.sl f 2 (ts.map D.Team.cells))), .any])), (1004, (.box [(vI 0), (vI 0)]))]
  (by kernel_rfl) ?_
 refine AWp.seq ?_
 by_cases hs2 : ((nextN L i 3 : Nat) : Int) = (2 : Int)
 ·skip
  refine AWp.s_region hGn hGk 
   [(some 9, ⟨[(5, (vI ((nextN L i 3 : Nat) : Int)))], [], (vI ((nextN L i 3 : Nat) : Int)), [], []⟩),
   (some 10, ⟨[(9, (vI ((nextN L i 3 : Nat) : Int)))], [], (vB true), [], []⟩),
   (some 11, ⟨[(10, (vB true))], [], (vB true), [], []⟩),
   (some 12, ⟨[(3, (.ref 1003 0)), (11, (vB true))], [(1003, (.box [(.p (.sl f 2 (ts.map D.Team.cells))), .any]))], (.ref 1003 0), [], []⟩),
   (some 13, ⟨[(12, (.ref 1003 0)), (11, (vB true))], [(1003, (.box [(.p (.sl f 2 (ts.map D.Team.cells))), .any]))], (.p (.sl f 2 (ts.map D.Team.cells))), [], []⟩),
   (some 14, ⟨[(13, (.p (.sl f 2 (ts.map D.Team.cells)))), (11, (vB true))], [], (vI ((ts.length : Nat) : Int)), [], []⟩),
   (some 15, ⟨[(14, (vI ((ts.length : Nat) : Int))), (11, (vB true))], [], (vB (decide (((ts.length : Nat) : Int) = (0 : Int)))), [], []⟩),
   (some 16, ⟨[(11, (vB true)), (15, (vB (decide (((ts.length : Nat) : Int) = (0 : Int)))))], [], (vB (decide (((ts.length : Nat) : Int) = (0 : Int)))), [], []⟩)]
   ⟨StepOK.p rfl rfl rfl (OpOK.move rfl rfl),
   StepOK.p rfl rfl rfl (OpOK.eqlI rfl rfl rfl (decide_eq_true hs2)),
   StepOK.p rfl rfl rfl (OpOK.move rfl rfl),
   StepOK.g rfl rfl rfl rfl rfl (by simp) (OpOK.fieldRef (fo := 0) rfl rfl (by kernel_rfl) rfl),
   StepOK.g rfl rfl rfl rfl rfl (by simp) (OpOK.loadBox rfl rfl (by kernel_rfl) rfl),
   StepOK.g rfl rfl rfl rfl rfl (by simp) (OpOK.lenP (e := 53) rfl rfl (by kernel_rfl) rfl (by rw [List.length_map])),
   StepOK.g rfl rfl rfl rfl rfl (by simp) (OpOK.eqlI rfl rfl rfl rfl),
   StepOK.p rfl rfl rfl (OpOK.pickT rfl rfl rfl), rfl⟩
   [(0, (.ref 1 0)), (3, (.ref 1003 0)), (4, (.ref 1004 0)), (5, (vI ((nextN L i 3 : Nat) : Int))), (16, (vB (decide (((ts.length : Nat) : Int) = (0 : Int)))))]
   [(1, (.box [(.p (.sl false 1 (L.map D.cInt))), (vI ((nextI L i 3 : Nat) : Int))])), (1003, (.box [(.p (.sl f 2 (ts.map D.Team.cells))), .any])), (1004, (.box [(vI 0), (vI 0)]))]
   (by kernel_rfl) ?_
  refine AWp.cond (decide (((ts.length : Nat) : Int) = (0 : Int))) rfl (fun hc3 => ?_) (fun hc3 => ?_)
  ·skip
   replace hc3 := of_decide_eq_true hc3
   refine AWp.region' hGn hGk 
    [(some 5, ⟨[], [], (vI 0), [], []⟩)]
    ⟨StepOK.p rfl rfl rfl (OpOK.assign rfl rfl), rfl⟩
    [(0, (.ref 1 0)), (3, (.ref 1003 0)), (4, (.ref 1004 0)), (5, (vI 0))]
    [(1, (.box [(.p (.sl false 1 (L.map D.cInt))), (vI ((nextI L i 3 : Nat) : Int))])), (1003, (.box [(.p (.sl f 2 (ts.map D.Team.cells))), .any])), (1004, (.box [(vI 0), (vI 0)]))]
    (by kernel_rfl) ?_
   refine nextQ_normal ?_
   refine AWp.s_region hGn hGk 
    [(some 17, ⟨[(3, (.ref 1003 0))], [(1003, (.box [(.p (.sl f 2 (ts.map D.Team.cells))), .any]))], (.ref 1003 0), [], []⟩),
    (some 18, ⟨[(17, (.ref 1003 0))], [(1003, (.box [(.p (.sl f 2 (ts.map D.Team.cells))), .any]))], (.p (.sl f 2 (ts.map D.Team.cells))), [], []⟩),
    (some 19, ⟨[(18, (.p (.sl f 2 (ts.map D.Team.cells))))], [], (vI ((ts.length : Nat) : Int)), [], []⟩),
    (some 20, ⟨[(19, (vI ((ts.length : Nat) : Int)))], [], (.p (.sl true 1 [[(pI 4)], [(pI 2)], [(pI ((ts.length : Nat) : Int))]])), [], []⟩),
    (some 21, ⟨[(5, (vI 0))], [], (vI 0), [], []⟩),
    (some 22, ⟨[(20, (.p (.sl true 1 [[(pI 4)], [(pI 2)], [(pI ((ts.length : Nat) : Int))]]))), (21, (vI 0))], [], (.eptr [(pI 4)]), [], []⟩),
    (some 23, ⟨[(22, (.eptr [(pI 4)]))], [], (vI 4), [], []⟩),
    (some 6, ⟨[(23, (vI 4))], [], (vI 4), [], []⟩)]
    ⟨StepOK.p rfl rfl rfl (OpOK.fieldRef (fo := 0) rfl rfl (by kernel_rfl) rfl),
    StepOK.p rfl rfl rfl (OpOK.loadBox rfl rfl (by kernel_rfl) rfl),
    StepOK.p rfl rfl rfl (OpOK.lenP (e := 53) rfl rfl (by kernel_rfl) rfl (by rw [List.length_map])),
    StepOK.p rfl rfl rfl (OpOK.buildSlice (e := 3) (zr := [(pI 0)]) rfl (by kernel_rfl) (by kernel_rfl) (by kernel_rfl) (by kernel_rfl) rfl (by kernel_rfl) rfl),
    StepOK.p rfl rfl rfl (OpOK.move rfl rfl),
    StepOK.p rfl rfl rfl (OpOK.indexP (e := 3) rfl (by kernel_rfl) (by kernel_rfl) rfl rfl rfl rfl),
    StepOK.p rfl rfl rfl (OpOK.loadPtr rfl rfl (by kernel_rfl) rfl),
    StepOK.p rfl rfl rfl (OpOK.assign rfl rfl), rfl⟩
    [(0, (.ref 1 0)), (4, (.ref 1004 0)), (5, (vI 0)), (6, (vI 4))]
    [(1, (.box [(.p (.sl false 1 (L.map D.cInt))), (vI ((nextI L i 3 : Nat) : Int))])), (1004, (.box [(vI 0), (vI 0)]))]
    (by kernel_rfl) ?_
   have hf4 := nextN_lt L (nextI L i 3) 4 (by omega)
   refine AWp.s_region hGn hGk 
    [(some 24, ⟨[(5, (vI 0))], [], (vI 0), [], []⟩),
    (some 25, ⟨[(0, (.ref 1 0))], [], (.ref 1 0), [], []⟩),
    (some 26, ⟨[(6, (vI 4))], [], (vI 4), [], []⟩),
    (some 27, ⟨[(25, (.ref 1 0)), (26, (vI 4))], [(1, (.box [(.p (.sl false 1 (L.map D.cInt))), (vI ((nextI L i 3 : Nat) : Int))]))], (vI ((nextN L (nextI L i 3) 4 : Nat) : Int)), [(1, (.box [(.p (.sl false 1 (L.map D.cInt))), (vI ((nextI L (nextI L i 3) 4 : Nat) : Int))]))], []⟩),
    (some 28, ⟨[(24, (vI 0)), (27, (vI ((nextN L (nextI L i 3) 4 : Nat) : Int)))], [], (.agg [(vI 0), (vI ((nextN L (nextI L i 3) 4 : Nat) : Int))]), [], []⟩),
    (none, ⟨[(4, (.ref 1004 0)), (28, (.agg [(vI 0), (vI ((nextN L (nextI L i 3) 4 : Nat) : Int))]))], [(1004, (.box [(vI 0), (vI 0)]))], .any, [(1004, (.box [(vI 0), (vI ((nextN L (nextI L i 3) 4 : Nat) : Int))]))], []⟩)]
    ⟨StepOK.p rfl rfl rfl (OpOK.move rfl rfl),
    StepOK.p rfl rfl rfl (OpOK.move rfl rfl),
    StepOK.p rfl rfl rfl (OpOK.move rfl rfl),
    StepOK.p rfl rfl rfl (OpOK.call rfl (by kernel_rfl) rfl (made_Next L (nextI L i 3) 4 hL (by repeat (first | assumption | exact Nat.zero_le _ | apply nextI_le | apply oneI_le | apply targetI_le | apply teamI_le | apply stepI_le | apply policyI_le)) (by omega)) (by kernel_rfl)),
    StepOK.p rfl rfl rfl (OpOK.build (pl := [(0, 1), (1, 1)]) (zs := [(vI 0), (vI 0)]) rfl (by kernel_rfl) (by kernel_rfl) rfl),
    StepOK.p rfl rfl rfl (OpOK.storeBox rfl rfl rfl rfl rfl (by kernel_rfl) (by kernel_rfl) rfl), rfl⟩
    [(4, (.ref 1004 0))]
    [(1, (.box [(.p (.sl false 1 (L.map D.cInt))), (vI ((nextI L (nextI L i 3) 4 : Nat) : Int))])), (1004, (.box [(vI 0), (vI ((nextN L (nextI L i 3) 4 : Nat) : Int))]))]
    (by kernel_rfl) ?_
   refine AWp.ret ?_
   refine fin_of (.inr rfl) (v := (.agg [(vI 0), (vI ((nextN L (nextI L i 3) 4 : Nat) : Int))])) (Res.agg rfl rfl rfl (by kernel_rfl) (by kernel_rfl)) (h' := [(1, (.box [(.p (.sl false 1 (L.map D.cInt))), (vI ((nextI L (nextI L i 3) 4 : Nat) : Int))]))]) rfl rfl ?_
   have hK : targetK L i ts.length = 0 := by unfold targetK; rw [if_pos (by omega)]
   exact ⟨by simp only [target, targetN, hK] <;> rfl, by simp only [targetI, targetN, hK] <;> rfl⟩
  ·skip
   replace hc3 := of_decide_eq_false hc3
   refine AWp.skip ?_
   refine nextQ_normal ?_
   refine AWp.s_region hGn hGk 
    [(some 17, ⟨[(3, (.ref 1003 0))], [(1003, (.box [(.p (.sl f 2 (ts.map D.Team.cells))), .any]))], (.ref 1003 0), [], []⟩),
    (some 18, ⟨[(17, (.ref 1003 0))], [(1003, (.box [(.p (.sl f 2 (ts.map D.Team.cells))), .any]))], (.p (.sl f 2 (ts.map D.Team.cells))), [], []⟩),
    (some 19, ⟨[(18, (.p (.sl f 2 (ts.map D.Team.cells))))], [], (vI ((ts.length : Nat) : Int)), [], []⟩),
    (some 20, ⟨[(19, (vI ((ts.length : Nat) : Int)))], [], (.p (.sl true 1 [[(pI 4)], [(pI 2)], [(pI ((ts.length : Nat) : Int))]])), [], []⟩),
    (some 21, ⟨[(5, (vI ((nextN L i 3 : Nat) : Int)))], [], (vI ((nextN L i 3 : Nat) : Int)), [], []⟩),
    (some 22, ⟨[(20, (.p (.sl true 1 [[(pI 4)], [(pI 2)], [(pI ((ts.length : Nat) : Int))]]))), (21, (vI ((nextN L i 3 : Nat) : Int)))], [], (.eptr [(pI (nth ([4, 2, ((ts.length : Nat) : Int)] : List Int) (nextN L i 3)))]), [], []⟩),
    (some 23, ⟨[(22, (.eptr [(pI (nth ([4, 2, ((ts.length : Nat) : Int)] : List Int) (nextN L i 3)))]))], [], (vI (nth ([4, 2, ((ts.length : Nat) : Int)] : List Int) (nextN L i 3))), [], []⟩),
    (some 6, ⟨[(23, (vI (nth ([4, 2, ((ts.length : Nat) : Int)] : List Int) (nextN L i 3))))], [], (vI (nth ([4, 2, ((ts.length : Nat) : Int)] : List Int) (nextN L i 3))), [], []⟩)]
    ⟨StepOK.p rfl rfl rfl (OpOK.fieldRef (fo := 0) rfl rfl (by kernel_rfl) rfl),
    StepOK.p rfl rfl rfl (OpOK.loadBox rfl rfl (by kernel_rfl) rfl),
    StepOK.p rfl rfl rfl (OpOK.lenP (e := 53) rfl rfl (by kernel_rfl) rfl (by rw [List.length_map])),
    StepOK.p rfl rfl rfl (OpOK.buildSlice (e := 3) (zr := [(pI 0)]) rfl (by kernel_rfl) (by kernel_rfl) (by kernel_rfl) (by kernel_rfl) rfl (by kernel_rfl) rfl),
    StepOK.p rfl rfl rfl (OpOK.move rfl rfl),
    StepOK.p rfl rfl rfl (OpOK.indexP (e := 3) rfl (by kernel_rfl) (by kernel_rfl) rfl rfl rfl (map_nth (l := ([4, 2, ((ts.length : Nat) : Int)] : List Int)) (f := D.cInt) (by simp only [List.length_cons, List.length_nil]; omega))),
    StepOK.p rfl rfl rfl (OpOK.loadPtr rfl rfl (by kernel_rfl) rfl),
    StepOK.p rfl rfl rfl (OpOK.assign rfl rfl), rfl⟩
    [(0, (.ref 1 0)), (4, (.ref 1004 0)), (5, (vI ((nextN L i 3 : Nat) : Int))), (6, (vI (nth ([4, 2, ((ts.length : Nat) : Int)] : List Int) (nextN L i 3))))]
    [(1, (.box [(.p (.sl false 1 (L.map D.cInt))), (vI ((nextI L i 3 : Nat) : Int))])), (1004, (.box [(vI 0), (vI 0)]))]
    (by kernel_rfl) ?_
   refine AWp.s_region hGn hGk 
    [(some 24, ⟨[(5, (vI ((nextN L i 3 : Nat) : Int)))], [], (vI ((nextN L i 3 : Nat) : Int)), [], []⟩),
    (some 25, ⟨[(0, (.ref 1 0))], [], (.ref 1 0), [], []⟩),
    (some 26, ⟨[(6, (vI (nth ([4, 2, ((ts.length : Nat) : Int)] : List Int) (nextN L i 3))))], [], (vI (nth ([4, 2, ((ts.length : Nat) : Int)] : List Int) (nextN L i 3))), [], []⟩),
    (some 27, ⟨[(25, (.ref 1 0)), (26, (vI (nth ([4, 2, ((ts.length : Nat) : Int)] : List Int) (nextN L i 3))))], [(1, (.box [(.p (.sl false 1 (L.map D.cInt))), (vI ((nextI L i 3 : Nat) : Int))]))], (vI ((nextN L (nextI L i 3) (nth ([4, 2, ((ts.length : Nat) : Int)] : List Int) (nextN L i 3)) : Nat) : Int)), [(1, (.box [(.p (.sl false 1 (L.map D.cInt))), (vI ((nextI L (nextI L i 3) (nth ([4, 2, ((ts.length : Nat) : Int)] : List Int) (nextN L i 3)) : Nat) : Int))]))], []⟩),
    (some 28, ⟨[(24, (vI ((nextN L i 3 : Nat) : Int))), (27, (vI ((nextN L (nextI L i 3) (nth ([4, 2, ((ts.length : Nat) : Int)] : List Int) (nextN L i 3)) : Nat) : Int)))], [], (.agg [(vI ((nextN L i 3 : Nat) : Int)), (vI ((nextN L (nextI L i 3) (nth ([4, 2, ((ts.length : Nat) : Int)] : List Int) (nextN L i 3)) : Nat) : Int))]), [], []⟩),
    (none, ⟨[(4, (.ref 1004 0)), (28, (.agg [(vI ((nextN L i 3 : Nat) : Int)), (vI ((nextN L (nextI L i 3) (nth ([4, 2, ((ts.length : Nat) : Int)] : List Int) (nextN L i 3)) : Nat) : Int))]))], [(1004, (.box [(vI 0), (vI 0)]))], .any, [(1004, (.box [(vI ((nextN L i 3 : Nat) : Int)), (vI ((nextN L (nextI L i 3) (nth ([4, 2, ((ts.length : Nat) : Int)] : List Int) (nextN L i 3)) : Nat) : Int))]))], []⟩)]
    ⟨StepOK.p rfl rfl rfl (OpOK.move rfl rfl),
    StepOK.p rfl rfl rfl (OpOK.move rfl rfl),
    StepOK.p rfl rfl rfl (OpOK.move rfl rfl),
    StepOK.p rfl rfl rfl (OpOK.call rfl (by kernel_rfl) rfl (made_Next L (nextI L i 3) (nth ([4, 2, ((ts.length : Nat) : Int)] : List Int) (nextN L i 3)) hL (by repeat (first | assumption | exact Nat.zero_le _ | apply nextI_le | apply oneI_le | apply targetI_le | apply teamI_le | apply stepI_le | apply policyI_le)) (by omega)) (by kernel_rfl)),
    StepOK.p rfl rfl rfl (OpOK.build (pl := [(0, 1), (1, 1)]) (zs := [(vI 0), (vI 0)]) rfl (by kernel_rfl) (by kernel_rfl) rfl),
    StepOK.p rfl rfl rfl (OpOK.storeBox rfl rfl rfl rfl rfl (by kernel_rfl) (by kernel_rfl) rfl), rfl⟩
    [(4, (.ref 1004 0))]
    [(1, (.box [(.p (.sl false 1 (L.map D.cInt))), (vI ((nextI L (nextI L i 3) (nth ([4, 2, ((ts.length : Nat) : Int)] : List Int) (nextN L i 3)) : Nat) : Int))])), (1004, (.box [(vI ((nextN L i 3 : Nat) : Int)), (vI ((nextN L (nextI L i 3) (nth ([4, 2, ((ts.length : Nat) : Int)] : List Int) (nextN L i 3)) : Nat) : Int))]))]
    (by kernel_rfl) ?_
   refine AWp.ret ?_
   refine fin_of (.inr rfl) (v := (.agg [(vI ((nextN L i 3 : Nat) : Int)), (vI ((nextN L (nextI L i 3) (nth ([4, 2, ((ts.length : Nat) : Int)] : List Int) (nextN L i 3)) : Nat) : Int))])) (Res.agg rfl rfl rfl (by kernel_rfl) (by kernel_rfl)) (h' := [(1, (.box [(.p (.sl false 1 (L.map D.cInt))), (vI ((nextI L (nextI L i 3) (nth ([4, 2, ((ts.length : Nat) : Int)] : List Int) (nextN L i 3)) : Nat) : Int))]))]) rfl rfl ?_
   have hK : targetK L i ts.length = nextN L i 3 := by unfold targetK; rw [if_neg (by omega)]
   exact ⟨by simp only [target, targetN, hK] <;> rfl, by simp only [targetI, targetN, hK] <;> rfl⟩
 ·skip
  refine AWp.s_region hGn hGk 
   [(some 9, ⟨[(5, (vI ((nextN L i 3 : Nat) : Int)))], [], (vI ((nextN L i 3 : Nat) : Int)), [], []⟩),
   (some 10, ⟨[(9, (vI ((nextN L i 3 : Nat) : Int)))], [], (vB false), [], []⟩),
   (some 11, ⟨[(10, (vB false))], [], (vB false), [], []⟩),
   (some 12, ⟨[(11, (vB false))], [], (.tup []), [], []⟩),
   (some 13, ⟨[(11, (vB false))], [], (.tup []), [], []⟩),
   (some 14, ⟨[(11, (vB false))], [], (.tup []), [], []⟩),
   (some 15, ⟨[(11, (vB false))], [], (.tup []), [], []⟩),
   (some 16, ⟨[(11, (vB false))], [], (vB false), [], []⟩)]
   ⟨StepOK.p rfl rfl rfl (OpOK.move rfl rfl),
   StepOK.p rfl rfl rfl (OpOK.eqlI rfl rfl rfl (decide_eq_false hs2)),
   StepOK.p rfl rfl rfl (OpOK.move rfl rfl),
   StepOK.k rfl rfl rfl rfl rfl rfl,
   StepOK.k rfl rfl rfl rfl rfl rfl,
   StepOK.k rfl rfl rfl rfl rfl rfl,
   StepOK.k rfl rfl rfl rfl rfl rfl,
   StepOK.p rfl rfl rfl (OpOK.pickF rfl rfl rfl), rfl⟩
   [(0, (.ref 1 0)), (3, (.ref 1003 0)), (4, (.ref 1004 0)), (5, (vI ((nextN L i 3 : Nat) : Int))), (16, (vB false))]
   [(1, (.box [(.p (.sl false 1 (L.map D.cInt))), (vI ((nextI L i 3 : Nat) : Int))])), (1003, (.box [(.p (.sl f 2 (ts.map D.Team.cells))), .any])), (1004, (.box [(vI 0), (vI 0)]))]
   (by kernel_rfl) ?_
  refine AWp.cond_false rfl ?_
  refine AWp.skip ?_
  refine nextQ_normal ?_
  refine AWp.s_region hGn hGk 
   [(some 17, ⟨[(3, (.ref 1003 0))], [(1003, (.box [(.p (.sl f 2 (ts.map D.Team.cells))), .any]))], (.ref 1003 0), [], []⟩),
   (some 18, ⟨[(17, (.ref 1003 0))], [(1003, (.box [(.p (.sl f 2 (ts.map D.Team.cells))), .any]))], (.p (.sl f 2 (ts.map D.Team.cells))), [], []⟩),
   (some 19, ⟨[(18, (.p (.sl f 2 (ts.map D.Team.cells))))], [], (vI ((ts.length : Nat) : Int)), [], []⟩),
   (some 20, ⟨[(19, (vI ((ts.length : Nat) : Int)))], [], (.p (.sl true 1 [[(pI 4)], [(pI 2)], [(pI ((ts.length : Nat) : Int))]])), [], []⟩),
   (some 21, ⟨[(5, (vI ((nextN L i 3 : Nat) : Int)))], [], (vI ((nextN L i 3 : Nat) : Int)), [], []⟩),
   (some 22, ⟨[(20, (.p (.sl true 1 [[(pI 4)], [(pI 2)], [(pI ((ts.length : Nat) : Int))]]))), (21, (vI ((nextN L i 3 : Nat) : Int)))], [], (.eptr [(pI (nth ([4, 2, ((ts.length : Nat) : Int)] : List Int) (nextN L i 3)))]), [], []⟩),
   (some 23, ⟨[(22, (.eptr [(pI (nth ([4, 2, ((ts.length : Nat) : Int)] : List Int) (nextN L i 3)))]))], [], (vI (nth ([4, 2, ((ts.length : Nat) : Int)] : List Int) (nextN L i 3))), [], []⟩),
   (some 6, ⟨[(23, (vI (nth ([4, 2, ((ts.length : Nat) : Int)] : List Int) (nextN L i 3))))], [], (vI (nth ([4, 2, ((ts.length : Nat) : Int)] : List Int) (nextN L i 3))), [], []⟩)]
   ⟨StepOK.p rfl rfl rfl (OpOK.fieldRef (fo := 0) rfl rfl (by kernel_rfl) rfl),
   StepOK.p rfl rfl rfl (OpOK.loadBox rfl rfl (by kernel_rfl) rfl),
   StepOK.p rfl rfl rfl (OpOK.lenP (e := 53) rfl rfl (by kernel_rfl) rfl (by rw [List.length_map])),
   StepOK.p rfl rfl rfl (OpOK.buildSlice (e := 3) (zr := [(pI 0)]) rfl (by kernel_rfl) (by kernel_rfl) (by kernel_rfl) (by kernel_rfl) rfl (by kernel_rfl) rfl),
   StepOK.p rfl rfl rfl (OpOK.move rfl rfl),
   StepOK.p rfl rfl rfl (OpOK.indexP (e := 3) rfl (by kernel_rfl) (by kernel_rfl) rfl rfl rfl (map_nth (l := ([4, 2, ((ts.length : Nat) : Int)] : List Int)) (f := D.cInt) (by simp only [List.length_cons, List.length_nil]; omega))),
   StepOK.p rfl rfl rfl (OpOK.loadPtr rfl rfl (by kernel_rfl) rfl),
   StepOK.p rfl rfl rfl (OpOK.assign rfl rfl), rfl⟩
   [(0, (.ref 1 0)), (4, (.ref 1004 0)), (5, (vI ((nextN L i 3 : Nat) : Int))), (6, (vI (nth ([4, 2, ((ts.length : Nat) : Int)] : List Int) (nextN L i 3))))]
   [(1, (.box [(.p (.sl false 1 (L.map D.cInt))), (vI ((nextI L i 3 : Nat) : Int))])), (1004, (.box [(vI 0), (vI 0)]))]
   (by kernel_rfl) ?_
  refine AWp.s_region hGn hGk 
   [(some 24, ⟨[(5, (vI ((nextN L i 3 : Nat) : Int)))], [], (vI ((nextN L i 3 : Nat) : Int)), [], []⟩),
   (some 25, ⟨[(0, (.ref 1 0))], [], (.ref 1 0), [], []⟩),
   (some 26, ⟨[(6, (vI (nth ([4, 2, ((ts.length : Nat) : Int)] : List Int) (nextN L i 3))))], [], (vI (nth ([4, 2, ((ts.length : Nat) : Int)] : List Int) (nextN L i 3))), [], []⟩),
   (some 27, ⟨[(25, (.ref 1 0)), (26, (vI (nth ([4, 2, ((ts.length : Nat) : Int)] : List Int) (nextN L i 3))))], [(1, (.box [(.p (.sl false 1 (L.map D.cInt))), (vI ((nextI L i 3 : Nat) : Int))]))], (vI ((nextN L (nextI L i 3) (nth ([4, 2, ((ts.length : Nat) : Int)] : List Int) (nextN L i 3)) : Nat) : Int)), [(1, (.box [(.p (.sl false 1 (L.map D.cInt))), (vI ((nextI L (nextI L i 3) (nth ([4, 2, ((ts.length : Nat) : Int)] : List Int) (nextN L i 3)) : Nat) : Int))]))], []⟩),
   (some 28, ⟨[(24, (vI ((nextN L i 3 : Nat) : Int))), (27, (vI ((nextN L (nextI L i 3) (nth ([4, 2, ((ts.length : Nat) : Int)] : List Int) (nextN L i 3)) : Nat) : Int)))], [], (.agg [(vI ((nextN L i 3 : Nat) : Int)), (vI ((nextN L (nextI L i 3) (nth ([4, 2, ((ts.length : Nat) : Int)] : List Int) (nextN L i 3)) : Nat) : Int))]), [], []⟩),
   (none, ⟨[(4, (.ref 1004 0)), (28, (.agg [(vI ((nextN L i 3 : Nat) : Int)), (vI ((nextN L (nextI L i 3) (nth ([4, 2, ((ts.length : Nat) : Int)] : List Int) (nextN L i 3)) : Nat) : Int))]))], [(1004, (.box [(vI 0), (vI 0)]))], .any, [(1004, (.box [(vI ((nextN L i 3 : Nat) : Int)), (vI ((nextN L (nextI L i 3) (nth ([4, 2, ((ts.length : Nat) : Int)] : List Int) (nextN L i 3)) : Nat) : Int))]))], []⟩)]
   ⟨StepOK.p rfl rfl rfl (OpOK.move rfl rfl),
   StepOK.p rfl rfl rfl (OpOK.move rfl rfl),
   StepOK.p rfl rfl rfl (OpOK.move rfl rfl),
   StepOK.p rfl rfl rfl (OpOK.call rfl (by kernel_rfl) rfl (made_Next L (nextI L i 3) (nth ([4, 2, ((ts.length : Nat) : Int)] : List Int) (nextN L i 3)) hL (by repeat (first | assumption | exact Nat.zero_le _ | apply nextI_le | apply oneI_le | apply targetI_le | apply teamI_le | apply stepI_le | apply policyI_le)) (by omega)) (by kernel_rfl)),
   StepOK.p rfl rfl rfl (OpOK.build (pl := [(0, 1), (1, 1)]) (zs := [(vI 0), (vI 0)]) rfl (by kernel_rfl) (by kernel_rfl) rfl),
   StepOK.p rfl rfl rfl (OpOK.storeBox rfl rfl rfl rfl rfl (by kernel_rfl) (by kernel_rfl) rfl), rfl⟩
   [(4, (.ref 1004 0))]
   [(1, (.box [(.p (.sl false 1 (L.map D.cInt))), (vI ((nextI L (nextI L i 3) (nth ([4, 2, ((ts.length : Nat) : Int)] : List Int) (nextN L i 3)) : Nat) : Int))])), (1004, (.box [(vI ((nextN L i 3 : Nat) : Int)), (vI ((nextN L (nextI L i 3) (nth ([4, 2, ((ts.length : Nat) : Int)] : List Int) (nextN L i 3)) : Nat) : Int))]))]
   (by kernel_rfl) ?_
  refine AWp.ret ?_
  refine fin_of (.inr rfl) (v := (.agg [(vI ((nextN L i 3 : Nat) : Int)), (vI ((nextN L (nextI L i 3) (nth ([4, 2, ((ts.length : Nat) : Int)] : List Int) (nextN L i 3)) : Nat) : Int))])) (Res.agg rfl rfl rfl (by kernel_rfl) (by kernel_rfl)) (h' := [(1, (.box [(.p (.sl false 1 (L.map D.cInt))), (vI ((nextI L (nextI L i 3) (nth ([4, 2, ((ts.length : Nat) : Int)] : List Int) (nextN L i 3)) : Nat) : Int))]))]) rfl rfl ?_
  have hK : targetK L i ts.length = nextN L i 3 := by unfold targetK; rw [if_neg (by omega)]
  exact ⟨by simp only [target, targetN, hK] <;> rfl, by simp only [targetI, targetN, hK] <;> rfl⟩

theorem made_Book (L : List Int) (i : Nat) (hL : L.length ≤ 500) (hi : i ≤ L.length) :
    SpecIs Try.prog 9 [(.ref 1 0)] [(1, (.box [(.p (.sl false 1 (L.map D.cInt))), (vI ((i : Nat) : Int))]))] (.agg [(.p (.sl false 2 (((book L i).Teams).map D.Team.cells))), (.p (.sl false 3 (((book L i).Policies).map D.Policy.cells)))]) [(1, (.box [(.p (.sl false 1 (L.map D.cInt))), (vI ((bookI L i : Nat) : Int))]))] := by
 refine Spec.intro Try.func9 rfl (by kernel_rfl) ?_
 intro Γ hGn hGk
 replace hGn : Γ.n = 102 := hGn
 replace hGk : Γ.names = [1] := hGk
 refine AWp.weaken (mk [(0, (.ref 1 0))] [(1, (.box [(.p (.sl false 1 (L.map D.cInt))), (vI ((i : Nat) : Int))]))]) (Weak.sub' hGk (by kernel_rfl)) ?_
 refine AWp.s_region hGn hGk 
  [(some 2, ⟨[], [], (.ref 1002 0), [(1002, (.box [(.p (.sl true 0 [])), (.p (.sl true 0 []))]))], [1002]⟩)]
  ⟨StepOK.p rfl rfl rfl (OpOK.alloc rfl (by kernel_rfl)), rfl⟩
  [(0, (.ref 1 0)), (2, (.ref 1002 0))]
  [(1, (.box [(.p (.sl false 1 (L.map D.cInt))), (vI ((i : Nat) : Int))])), (1002, (.box [(.p (.sl true 0 [])), (.p (.sl true 0 []))]))]
  (by kernel_rfl) ?_
 refine AWp.s_region hGn hGk 
  [(some 3, ⟨[], [], (.ref 1003 0), [(1003, (.box [(.p (.sl true 0 [])), (.p (.sl true 0 []))]))], [1003]⟩)]
  ⟨StepOK.p rfl rfl rfl (OpOK.alloc rfl (by kernel_rfl)), rfl⟩
  [(0, (.ref 1 0)), (2, (.ref 1002 0)), (3, (.ref 1003 0))]
  [(1, (.box [(.p (.sl false 1 (L.map D.cInt))), (vI ((i : Nat) : Int))])), (1002, (.box [(.p (.sl true 0 [])), (.p (.sl true 0 []))])), (1003, (.box [(.p (.sl true 0 [])), (.p (.sl true 0 []))]))]
  (by kernel_rfl) ?_
 refine AWp.seq ?_
 have hf1 := nextN_lt L i 3 (by omega)
 refine AWp.s_region hGn hGk 
  [(some 11, ⟨[(0, (.ref 1 0))], [], (.ref 1 0), [], []⟩),
  (some 12, ⟨[(11, (.ref 1 0))], [(1, (.box [(.p (.sl false 1 (L.map D.cInt))), (vI ((i : Nat) : Int))]))], (vI ((nextN L i 3 : Nat) : Int)), [(1, (.box [(.p (.sl false 1 (L.map D.cInt))), (vI ((nextI L i 3 : Nat) : Int))]))], []⟩),
  (some 4, ⟨[(12, (vI ((nextN L i 3 : Nat) : Int)))], [], (vI ((nextN L i 3 : Nat) : Int)), [], []⟩)]
  ⟨StepOK.p rfl rfl rfl (OpOK.move rfl rfl),
  StepOK.p rfl rfl rfl (OpOK.call rfl (by kernel_rfl) rfl (made_Next L i 3 hL (by repeat (first | assumption | exact Nat.zero_le _ | apply nextI_le | apply oneI_le | apply targetI_le | apply teamI_le | apply stepI_le | apply policyI_le)) (by omega)) (by kernel_rfl)),
  StepOK.p rfl rfl rfl (OpOK.assign rfl rfl), rfl⟩
  [(0, (.ref 1 0)), (2, (.ref 1002 0)), (3, (.ref 1003 0)), (4, (vI ((nextN L i 3 : Nat) : Int)))]
  [(1, (.box [(.p (.sl false 1 (L.map D.cInt))), (vI ((nextI L i 3 : Nat) : Int))])), (1002, (.box [(.p (.sl true 0 [])), (.p (.sl true 0 []))])), (1003, (.box [(.p (.sl true 0 [])), (.p (.sl true 0 []))]))]
  (by kernel_rfl) ?_
 refine AWp.block ?_
 refine AWp.weaken (mk [(0, (.ref 1 0)), (2, (.ref 1002 0)), (3, (.ref 1003 0)), (4, (vI ((nextN L i 3 : Nat) : Int)))] [(1003, (.box [(.p (.sl true 0 [])), (.p (.sl true 0 []))])), (1, (.box [(.p (.sl false 1 (L.map D.cInt))), (vI ((nextI L i 3 : Nat) : Int))])), (1002, (.box [(.p (.sl true 0 [])), (.p (.sl true 0 []))]))]) (Weak.sub' hGk (by kernel_rfl)) ?_
 refine AWp.weaken (mk [(0, (.ref 1 0)), (2, (.ref 1002 0)), (3, (.ref 1003 0)), (4, (vI ((nextN L i 3 : Nat) : Int)))] [(1003, (.box [(.own 2000 0), (.p (.sl true 0 []))])), (2000, (.arr 2 [])), (1, (.box [(.p (.sl false 1 (L.map D.cInt))), (vI ((nextI L i 3 : Nat) : Int))])), (1002, (.box [(.p (.sl true 0 [])), (.p (.sl true 0 []))]))]) (Weak.thawCell (j := 0) (es0 := 0) (by kernel_rfl) rfl rfl (by kernel_rfl) (by kernel_rfl) rfl) ?_
 refine AWp.loop (fun m s => ∃ n, ∃ (ts : List D.Team), ∃ i1, s = (mk [(0, (.ref 1 0)), (2, (.ref 1002 0)), (3, (.ref 1003 0)), (4, (vI ((n : Nat) : Int)))] [(1003, (.box [(.own 2000 ((ts.map D.Team.cells).length)), (.p (.sl true 0 []))])), (2000, (.arr 2 (ts.map D.Team.cells))), (1, (.box [(.p (.sl false 1 (L.map D.cInt))), (vI ((i1 : Nat) : Int))])), (1002, (.box [(.p (.sl true 0 [])), (.p (.sl true 0 []))]))]) ∧ (ts.length + n ≤ 2) ∧ (i1 ≤ L.length) ∧ (teams L n ts i1 = bookT L i) ∧ m = n)
  ⟨_, (nextN L i 3), ([]), (nextI L i 3), rfl, (by have := nextN_lt L i 3 (by omega); simp only [List.length_nil]; omega), (by repeat (first | assumption | exact Nat.zero_le _ | apply nextI_le | apply oneI_le | apply targetI_le | apply teamI_le | apply stepI_le | apply policyI_le)), rfl, rfl⟩ ?_
 rintro mm2 s ⟨n, ts, i1, rfl, hb, hi1, heq, hmm2⟩
 refine AWp.seq ?_
 refine AWp.s_region hGn hGk 
  [(some 13, ⟨[(4, (vI ((n : Nat) : Int)))], [], (vI ((n : Nat) : Int)), [], []⟩),
  (some 14, ⟨[(13, (vI ((n : Nat) : Int)))], [], (vB (decide ((0 : Int) < ((n : Nat) : Int)))), [], []⟩)]
  ⟨StepOK.p rfl rfl rfl (OpOK.move rfl rfl),
  StepOK.p rfl rfl rfl (OpOK.gtr rfl rfl rfl rfl), rfl⟩
  [(0, (.ref 1 0)), (2, (.ref 1002 0)), (3, (.ref 1003 0)), (4, (vI ((n : Nat) : Int))), (14, (vB (decide ((0 : Int) < ((n : Nat) : Int)))))]
  [(1003, (.box [(.own 2000 ((ts.map D.Team.cells).length)), (.p (.sl true 0 []))])), (2000, (.arr 2 (ts.map D.Team.cells))), (1, (.box [(.p (.sl false 1 (L.map D.cInt))), (vI ((i1 : Nat) : Int))])), (1002, (.box [(.p (.sl true 0 [])), (.p (.sl true 0 []))]))]
  (by kernel_rfl) ?_
 refine AWp.cond (decide ((0 : Int) < ((n : Nat) : Int))) rfl (fun hc3 => ?_) (fun hc3 => ?_)
 ·skip
  replace hc3 := of_decide_eq_true hc3
  refine AWp.skip ?_
  refine nextQ_normal ?_
  refine AWp.seq ?_
  refine AWp.block ?_
  have hf4 := nextN_lt L i1 2 (by omega)
  refine AWp.s_draw hGn hGk (by kernel_rfl)
   [(some 17, ⟨[], [], (.p (.sl true 1 [[(pS (ByteArray.mk #[99, 111, 114, 101]))], [(pS (ByteArray.mk #[119, 101, 98]))]])), [], []⟩),
   (some 18, ⟨[(3, (.ref 1003 0))], [(1003, (.box [(.own 2000 ((ts.map D.Team.cells).length)), (.p (.sl true 0 []))]))], (.ref 1003 0), [], []⟩),
   (some 19, ⟨[(18, (.ref 1003 0))], [(1003, (.box [(.own 2000 ((ts.map D.Team.cells).length)), (.p (.sl true 0 []))]))], (.own 2000 ((ts.map D.Team.cells).length)), [], []⟩),
   (some 20, ⟨[(19, (.own 2000 ((ts.map D.Team.cells).length)))], [(2000, (.arr 2 (ts.map D.Team.cells)))], (vI ((ts.length : Nat) : Int)), [], []⟩),
   (some 21, ⟨[(17, (.p (.sl true 1 [[(pS (ByteArray.mk #[99, 111, 114, 101]))], [(pS (ByteArray.mk #[119, 101, 98]))]]))), (20, (vI ((ts.length : Nat) : Int)))], [], (.eptr [(pS (nth ([(ByteArray.mk #[99, 111, 114, 101]), (ByteArray.mk #[119, 101, 98])] : List ByteArray) ts.length))]), [], []⟩),
   (some 22, ⟨[(21, (.eptr [(pS (nth ([(ByteArray.mk #[99, 111, 114, 101]), (ByteArray.mk #[119, 101, 98])] : List ByteArray) ts.length))]))], [], (vS (nth ([(ByteArray.mk #[99, 111, 114, 101]), (ByteArray.mk #[119, 101, 98])] : List ByteArray) ts.length)), [], []⟩),
   (some 23, ⟨[(0, (.ref 1 0))], [], (.ref 1 0), [], []⟩),
   (some 24, ⟨[(23, (.ref 1 0))], [(1, (.box [(.p (.sl false 1 (L.map D.cInt))), (vI ((i1 : Nat) : Int))]))], (vI ((nextN L i1 2 : Nat) : Int)), [(1, (.box [(.p (.sl false 1 (L.map D.cInt))), (vI ((nextI L i1 2 : Nat) : Int))]))], []⟩),
   (some 25, ⟨[(24, (vI ((nextN L i1 2 : Nat) : Int)))], [], (.p (.sl true 1 [[(pI ((nextN L i1 2 : Nat) : Int))]])), [], []⟩),
   (some 26, ⟨[(22, (vS (nth ([(ByteArray.mk #[99, 111, 114, 101]), (ByteArray.mk #[119, 101, 98])] : List ByteArray) ts.length))), (25, (.p (.sl true 1 [[(pI ((nextN L i1 2 : Nat) : Int))]])))], [], (.agg [(vS (nth ([(ByteArray.mk #[99, 111, 114, 101]), (ByteArray.mk #[119, 101, 98])] : List ByteArray) ts.length)), (.p (.sl true 1 [[(pI ((nextN L i1 2 : Nat) : Int))]]))]), [], []⟩),
   (some 5, ⟨[], [], (.ref 1005 0), [(1005, (.box [(vS (ByteArray.mk #[])), (.p (.sl true 0 []))]))], [1005]⟩),
   (none, ⟨[(5, (.ref 1005 0)), (26, (.agg [(vS (nth ([(ByteArray.mk #[99, 111, 114, 101]), (ByteArray.mk #[119, 101, 98])] : List ByteArray) ts.length)), (.p (.sl true 1 [[(pI ((nextN L i1 2 : Nat) : Int))]]))]))], [(1005, (.box [(vS (ByteArray.mk #[])), (.p (.sl true 0 []))]))], .any, [(1005, (.box [(vS (nth ([(ByteArray.mk #[99, 111, 114, 101]), (ByteArray.mk #[119, 101, 98])] : List ByteArray) ts.length)), (.p (.sl true 1 [[(pI ((nextN L i1 2 : Nat) : Int))]]))]))], []⟩)]
   ⟨StepOK.p rfl rfl rfl (OpOK.buildSlice (e := 9) (zr := [(pS (ByteArray.mk #[]))]) rfl (by kernel_rfl) (by kernel_rfl) (by kernel_rfl) (by kernel_rfl) rfl (by kernel_rfl) rfl),
   StepOK.p rfl rfl rfl (OpOK.fieldRef (fo := 0) rfl rfl (by kernel_rfl) rfl),
   StepOK.p rfl rfl rfl (OpOK.loadBox rfl rfl (by kernel_rfl) rfl),
   StepOK.p rfl rfl rfl (OpOK.lenOwn (e := 53) rfl rfl (by kernel_rfl) rfl (Nat.beq_refl _) (by rw [List.length_map])),
   StepOK.p rfl rfl rfl (OpOK.indexP (e := 9) rfl (by kernel_rfl) (by kernel_rfl) rfl rfl rfl (map_nth (l := ([(ByteArray.mk #[99, 111, 114, 101]), (ByteArray.mk #[119, 101, 98])] : List ByteArray)) (f := D.cStr) (by simp only [List.length_cons, List.length_nil]; omega))),
   StepOK.p rfl rfl rfl (OpOK.loadPtr rfl rfl (by kernel_rfl) rfl),
   StepOK.p rfl rfl rfl (OpOK.move rfl rfl),
   StepOK.p rfl rfl rfl (OpOK.call rfl (by kernel_rfl) rfl (made_Next L i1 2 hL (by repeat (first | assumption | exact Nat.zero_le _ | apply nextI_le | apply oneI_le | apply targetI_le | apply teamI_le | apply stepI_le | apply policyI_le)) (by omega)) (by kernel_rfl)),
   StepOK.p rfl rfl rfl (OpOK.buildSlice (e := 3) (zr := [(pI 0)]) rfl (by kernel_rfl) (by kernel_rfl) (by kernel_rfl) (by kernel_rfl) rfl (by kernel_rfl) rfl),
   StepOK.p rfl rfl rfl (OpOK.build (pl := [(0, 1), (1, 1)]) (zs := [(vS (ByteArray.mk #[])), (.p (.sl true 0 []))]) rfl (by kernel_rfl) (by kernel_rfl) rfl),
   StepOK.p rfl rfl rfl (OpOK.alloc rfl (by kernel_rfl)),
   StepOK.p rfl rfl rfl (OpOK.storeBox rfl rfl rfl rfl rfl (by kernel_rfl) (by kernel_rfl) rfl), rfl⟩
   [(0, (.ref 1 0)), (2, (.ref 1002 0)), (3, (.ref 1003 0)), (4, (vI ((n : Nat) : Int))), (5, (.ref 1005 0))]
   [(1003, (.box [(.own 2000 ((ts.map D.Team.cells).length)), (.p (.sl true 0 []))])), (2000, (.arr 2 (ts.map D.Team.cells))), (1, (.box [(.p (.sl false 1 (L.map D.cInt))), (vI ((nextI L i1 2 : Nat) : Int))])), (1002, (.box [(.p (.sl true 0 [])), (.p (.sl true 0 []))])), (1005, (.box [(vS (nth ([(ByteArray.mk #[99, 111, 114, 101]), (ByteArray.mk #[119, 101, 98])] : List ByteArray) ts.length)), (.p (.sl true 1 [[(pI ((nextN L i1 2 : Nat) : Int))]]))]))]
   (by kernel_rfl) (by kernel_rfl) ?_
  refine AWp.seq ?_
  have hf5 := nextN_lt L (nextI L i1 2) 2 (by omega)
  refine AWp.s_region hGn hGk 
   [(some 27, ⟨[(0, (.ref 1 0))], [], (.ref 1 0), [], []⟩),
   (some 28, ⟨[(27, (.ref 1 0))], [(1, (.box [(.p (.sl false 1 (L.map D.cInt))), (vI ((nextI L i1 2 : Nat) : Int))]))], (vI ((nextN L (nextI L i1 2) 2 : Nat) : Int)), [(1, (.box [(.p (.sl false 1 (L.map D.cInt))), (vI ((nextI L (nextI L i1 2) 2 : Nat) : Int))]))], []⟩),
   (some 29, ⟨[(28, (vI ((nextN L (nextI L i1 2) 2 : Nat) : Int)))], [], (vB (decide (((nextN L (nextI L i1 2) 2 : Nat) : Int) = (0 : Int)))), [], []⟩)]
   ⟨StepOK.p rfl rfl rfl (OpOK.move rfl rfl),
   StepOK.p rfl rfl rfl (OpOK.call rfl (by kernel_rfl) rfl (made_Next L (nextI L i1 2) 2 hL (by repeat (first | assumption | exact Nat.zero_le _ | apply nextI_le | apply oneI_le | apply targetI_le | apply teamI_le | apply stepI_le | apply policyI_le)) (by omega)) (by kernel_rfl)),
   StepOK.p rfl rfl rfl (OpOK.eqlI rfl rfl rfl rfl), rfl⟩
   [(0, (.ref 1 0)), (2, (.ref 1002 0)), (3, (.ref 1003 0)), (4, (vI ((n : Nat) : Int))), (5, (.ref 1005 0)), (29, (vB (decide (((nextN L (nextI L i1 2) 2 : Nat) : Int) = (0 : Int)))))]
   [(1003, (.box [(.own 2000 ((ts.map D.Team.cells).length)), (.p (.sl true 0 []))])), (2000, (.arr 2 (ts.map D.Team.cells))), (1, (.box [(.p (.sl false 1 (L.map D.cInt))), (vI ((nextI L (nextI L i1 2) 2 : Nat) : Int))])), (1002, (.box [(.p (.sl true 0 [])), (.p (.sl true 0 []))])), (1005, (.box [(vS (nth ([(ByteArray.mk #[99, 111, 114, 101]), (ByteArray.mk #[119, 101, 98])] : List ByteArray) ts.length)), (.p (.sl true 1 [[(pI ((nextN L i1 2 : Nat) : Int))]]))]))]
   (by kernel_rfl) ?_
  refine AWp.cond (decide (((nextN L (nextI L i1 2) 2 : Nat) : Int) = (0 : Int))) rfl (fun hc6 => ?_) (fun hc6 => ?_)
  ·skip
   replace hc6 := of_decide_eq_true hc6
   have hb7 := nextN_lt L (nextI L (nextI L i1 2) 2) 2 (by omega)
   have hf7 := nextN_lt L (nextI L (nextI L i1 2) 2) 2 (by omega)
   refine AWp.draw' hGn hGk (by kernel_rfl)
    [(some 30, ⟨[(5, (.ref 1005 0))], [(1005, (.box [(vS (nth ([(ByteArray.mk #[99, 111, 114, 101]), (ByteArray.mk #[119, 101, 98])] : List ByteArray) ts.length)), (.p (.sl true 1 [[(pI ((nextN L i1 2 : Nat) : Int))]]))]))], (.ref 1005 1), [], []⟩),
    (some 31, ⟨[(30, (.ref 1005 1))], [(1005, (.box [(vS (nth ([(ByteArray.mk #[99, 111, 114, 101]), (ByteArray.mk #[119, 101, 98])] : List ByteArray) ts.length)), (.p (.sl true 1 [[(pI ((nextN L i1 2 : Nat) : Int))]]))]))], (.p (.sl true 1 [[(pI ((nextN L i1 2 : Nat) : Int))]])), [], []⟩),
    (some 32, ⟨[(0, (.ref 1 0))], [], (.ref 1 0), [], []⟩),
    (some 33, ⟨[(32, (.ref 1 0))], [(1, (.box [(.p (.sl false 1 (L.map D.cInt))), (vI ((nextI L (nextI L i1 2) 2 : Nat) : Int))]))], (vI ((nextN L (nextI L (nextI L i1 2) 2) 2 : Nat) : Int)), [(1, (.box [(.p (.sl false 1 (L.map D.cInt))), (vI ((nextI L (nextI L (nextI L i1 2) 2) 2 : Nat) : Int))]))], []⟩),
    (some 34, ⟨[(33, (vI ((nextN L (nextI L (nextI L i1 2) 2) 2 : Nat) : Int)))], [], (vI ((2 + (nextN L (nextI L (nextI L i1 2) 2) 2) : Nat) : Int)), [], []⟩),
    (some 35, ⟨[(34, (vI ((2 + (nextN L (nextI L (nextI L i1 2) 2) 2) : Nat) : Int)))], [], (.p (.sl true 1 [[(pI ((2 + (nextN L (nextI L (nextI L i1 2) 2) 2) : Nat) : Int))]])), [], []⟩),
    (some 36, ⟨[(31, (.p (.sl true 1 [[(pI ((nextN L i1 2 : Nat) : Int))]]))), (35, (.p (.sl true 1 [[(pI ((2 + (nextN L (nextI L (nextI L i1 2) 2) 2) : Nat) : Int))]])))], [], (.own 1036 2), [(1036, (.arr 1 [[(pI ((nextN L i1 2 : Nat) : Int))], [(pI ((2 + (nextN L (nextI L (nextI L i1 2) 2) 2) : Nat) : Int))]]))], [1036]⟩),
    (some 37, ⟨[(5, (.ref 1005 0))], [(1005, (.box [(vS (nth ([(ByteArray.mk #[99, 111, 114, 101]), (ByteArray.mk #[119, 101, 98])] : List ByteArray) ts.length)), (.p (.sl true 1 [[(pI ((nextN L i1 2 : Nat) : Int))]]))]))], (.ref 1005 1), [], []⟩),
    (none, ⟨[(37, (.ref 1005 1)), (36, (.own 1036 2))], [(1005, (.box [(vS (nth ([(ByteArray.mk #[99, 111, 114, 101]), (ByteArray.mk #[119, 101, 98])] : List ByteArray) ts.length)), (.p (.sl true 1 [[(pI ((nextN L i1 2 : Nat) : Int))]]))]))], .any, [(1005, (.box [(vS (nth ([(ByteArray.mk #[99, 111, 114, 101]), (ByteArray.mk #[119, 101, 98])] : List ByteArray) ts.length)), (.own 1036 2)]))], []⟩)]
    ⟨StepOK.p rfl rfl rfl (OpOK.fieldRef (fo := 1) rfl rfl (by kernel_rfl) rfl),
    StepOK.p rfl rfl rfl (OpOK.loadBox rfl rfl (by kernel_rfl) rfl),
    StepOK.p rfl rfl rfl (OpOK.move rfl rfl),
    StepOK.p rfl rfl rfl (OpOK.call rfl (by kernel_rfl) rfl (made_Next L (nextI L (nextI L i1 2) 2) 2 hL (by repeat (first | assumption | exact Nat.zero_le _ | apply nextI_le | apply oneI_le | apply targetI_le | apply teamI_le | apply stepI_le | apply policyI_le)) (by omega)) (by kernel_rfl)),
    StepOK.p rfl rfl rfl (OpOK.add rfl rfl rfl (by rw [IntWalk.i64_in _ ⟨by omega, by omega⟩]; omega)),
    StepOK.p rfl rfl rfl (OpOK.buildSlice (e := 3) (zr := [(pI 0)]) rfl (by kernel_rfl) (by kernel_rfl) (by kernel_rfl) (by kernel_rfl) rfl (by kernel_rfl) rfl),
    StepOK.p rfl rfl rfl (OpOK.appendNew (e := 3) (bytes := 8) rfl rfl (by kernel_rfl) (by kernel_rfl) (by kernel_rfl) rfl rfl rfl rfl (.inr ⟨by simp, rfl⟩) (by simp only [List.length_map, List.length_cons, List.length_nil]; omega) (by simp only [List.length_map, List.length_cons, List.length_nil]; omega)),
    StepOK.p rfl rfl rfl (OpOK.fieldRef (fo := 1) rfl rfl (by kernel_rfl) rfl),
    StepOK.p rfl rfl rfl (OpOK.storeBox rfl rfl rfl rfl rfl (by kernel_rfl) (by kernel_rfl) rfl), rfl⟩
    [(0, (.ref 1 0)), (2, (.ref 1002 0)), (3, (.ref 1003 0)), (4, (vI ((n : Nat) : Int))), (5, (.ref 1005 0))]
    [(1003, (.box [(.own 2000 ((ts.map D.Team.cells).length)), (.p (.sl true 0 []))])), (2000, (.arr 2 (ts.map D.Team.cells))), (1, (.box [(.p (.sl false 1 (L.map D.cInt))), (vI ((nextI L (nextI L (nextI L i1 2) 2) 2 : Nat) : Int))])), (1002, (.box [(.p (.sl true 0 [])), (.p (.sl true 0 []))])), (1005, (.box [(vS (nth ([(ByteArray.mk #[99, 111, 114, 101]), (ByteArray.mk #[119, 101, 98])] : List ByteArray) ts.length)), (.own 1036 2)])), (1036, (.arr 1 [[(pI ((nextN L i1 2 : Nat) : Int))], [(pI ((2 + (nextN L (nextI L (nextI L i1 2) 2) 2) : Nat) : Int))]]))]
    (by kernel_rfl) (by kernel_rfl) ?_
   refine nextQ_normal ?_
   refine AWp.weaken (mk [(0, (.ref 1 0)), (2, (.ref 1002 0)), (3, (.ref 1003 0)), (4, (vI ((n : Nat) : Int))), (5, (.ref 1005 0))] [(1036, (.arr 1 [[(pI ((nextN L i1 2 : Nat) : Int))], [(pI ((2 + (nextN L (nextI L (nextI L i1 2) 2) 2) : Nat) : Int))]])), (1003, (.box [(.own 2000 ((ts.map D.Team.cells).length)), (.p (.sl true 0 []))])), (2000, (.arr 2 (ts.map D.Team.cells))), (1, (.box [(.p (.sl false 1 (L.map D.cInt))), (vI ((nextI L (nextI L (nextI L i1 2) 2) 2 : Nat) : Int))])), (1002, (.box [(.p (.sl true 0 [])), (.p (.sl true 0 []))])), (1005, (.box [(vS (nth ([(ByteArray.mk #[99, 111, 114, 101]), (ByteArray.mk #[119, 101, 98])] : List ByteArray) ts.length)), (.own 1036 2)]))]) (Weak.sub' hGk (by kernel_rfl)) ?_
   refine AWp.weaken (mk [(0, (.ref 1 0)), (2, (.ref 1002 0)), (3, (.ref 1003 0)), (4, (vI ((n : Nat) : Int))), (5, (.ref 1005 0))] [(1003, (.box [(.own 2000 ((ts.map D.Team.cells).length)), (.p (.sl true 0 []))])), (2000, (.arr 2 (ts.map D.Team.cells))), (1, (.box [(.p (.sl false 1 (L.map D.cInt))), (vI ((nextI L (nextI L (nextI L i1 2) 2) 2 : Nat) : Int))])), (1002, (.box [(.p (.sl true 0 [])), (.p (.sl true 0 []))])), (1005, (.box [(vS (nth ([(ByteArray.mk #[99, 111, 114, 101]), (ByteArray.mk #[119, 101, 98])] : List ByteArray) ts.length)), (.p (.sl false 1 [[(pI ((nextN L i1 2 : Nat) : Int))], [(pI ((2 + (nextN L (nextI L (nextI L i1 2) 2) 2) : Nat) : Int))]]))]))]) (Weak.freeze (n := 1036) (es := 1) (rows := [[(pI ((nextN L i1 2 : Nat) : Int))], [(pI ((2 + (nextN L (nextI L (nextI L i1 2) 2) 2) : Nat) : Int))]]) (by rw [hGk]; decide) ⟨rfl, (.same rfl), ⟨rfl, (.same rfl), ⟨rfl, (.same rfl), ⟨rfl, (.same rfl), ⟨rfl, (.same rfl), trivial⟩⟩⟩⟩⟩ ⟨rfl, by decide, (.same rfl), ⟨rfl, by decide, (.same rfl), ⟨rfl, by decide, (.same rfl), ⟨rfl, by decide, (.same rfl), ⟨rfl, by decide, (.box (.cons (.same rfl) (.cons .own .nil))), trivial⟩⟩⟩⟩⟩) ?_
   refine AWp.region' hGn hGk 
    [(some 38, ⟨[(3, (.ref 1003 0))], [(1003, (.box [(.own 2000 ((ts.map D.Team.cells).length)), (.p (.sl true 0 []))]))], (.ref 1003 0), [], []⟩),
    (some 39, ⟨[(38, (.ref 1003 0))], [(1003, (.box [(.own 2000 ((ts.map D.Team.cells).length)), (.p (.sl true 0 []))]))], (.own 2000 ((ts.map D.Team.cells).length)), [], []⟩),
    (some 40, ⟨[(5, (.ref 1005 0))], [(1005, (.box [(vS (nth ([(ByteArray.mk #[99, 111, 114, 101]), (ByteArray.mk #[119, 101, 98])] : List ByteArray) ts.length)), (.p (.sl false 1 [[(pI ((nextN L i1 2 : Nat) : Int))], [(pI ((2 + (nextN L (nextI L (nextI L i1 2) 2) 2) : Nat) : Int))]]))]))], (.agg [(vS (nth ([(ByteArray.mk #[99, 111, 114, 101]), (ByteArray.mk #[119, 101, 98])] : List ByteArray) ts.length)), (.p (.sl false 1 [[(pI ((nextN L i1 2 : Nat) : Int))], [(pI ((2 + (nextN L (nextI L (nextI L i1 2) 2) 2) : Nat) : Int))]]))]), [], []⟩),
    (some 41, ⟨[(40, (.agg [(vS (nth ([(ByteArray.mk #[99, 111, 114, 101]), (ByteArray.mk #[119, 101, 98])] : List ByteArray) ts.length)), (.p (.sl false 1 [[(pI ((nextN L i1 2 : Nat) : Int))], [(pI ((2 + (nextN L (nextI L (nextI L i1 2) 2) 2) : Nat) : Int))]]))]))], [], (.p (.sl true 2 [[(pS (nth ([(ByteArray.mk #[99, 111, 114, 101]), (ByteArray.mk #[119, 101, 98])] : List ByteArray) ts.length)), (.sl false 1 [[(pI ((nextN L i1 2 : Nat) : Int))], [(pI ((2 + (nextN L (nextI L (nextI L i1 2) 2) 2) : Nat) : Int))]])]])), [], []⟩),
    (some 42, ⟨[(39, (.own 2000 ((ts.map D.Team.cells).length))), (41, (.p (.sl true 2 [[(pS (nth ([(ByteArray.mk #[99, 111, 114, 101]), (ByteArray.mk #[119, 101, 98])] : List ByteArray) ts.length)), (.sl false 1 [[(pI ((nextN L i1 2 : Nat) : Int))], [(pI ((2 + (nextN L (nextI L (nextI L i1 2) 2) 2) : Nat) : Int))]])]])))], [(2000, (.arr 2 (ts.map D.Team.cells)))], (.own 2000 (((ts ++ [(⟨nth ([(ByteArray.mk #[99, 111, 114, 101]), (ByteArray.mk #[119, 101, 98])] : List ByteArray) ts.length, ([((nextN L i1 2 : Nat) : Int), ((2 + (nextN L (nextI L (nextI L i1 2) 2) 2) : Nat) : Int)] : List Int)⟩ : D.Team)]).map D.Team.cells).length)), [(2000, (.arr 2 ((ts ++ [(⟨nth ([(ByteArray.mk #[99, 111, 114, 101]), (ByteArray.mk #[119, 101, 98])] : List ByteArray) ts.length, ([((nextN L i1 2 : Nat) : Int), ((2 + (nextN L (nextI L (nextI L i1 2) 2) 2) : Nat) : Int)] : List Int)⟩ : D.Team)]).map D.Team.cells)))], []⟩),
    (some 43, ⟨[(3, (.ref 1003 0))], [(1003, (.box [(.own 2000 ((ts.map D.Team.cells).length)), (.p (.sl true 0 []))]))], (.ref 1003 0), [], []⟩),
    (none, ⟨[(43, (.ref 1003 0)), (42, (.own 2000 (((ts ++ [(⟨nth ([(ByteArray.mk #[99, 111, 114, 101]), (ByteArray.mk #[119, 101, 98])] : List ByteArray) ts.length, ([((nextN L i1 2 : Nat) : Int), ((2 + (nextN L (nextI L (nextI L i1 2) 2) 2) : Nat) : Int)] : List Int)⟩ : D.Team)]).map D.Team.cells).length)))], [(1003, (.box [(.own 2000 ((ts.map D.Team.cells).length)), (.p (.sl true 0 []))]))], .any, [(1003, (.box [(.own 2000 (((ts ++ [(⟨nth ([(ByteArray.mk #[99, 111, 114, 101]), (ByteArray.mk #[119, 101, 98])] : List ByteArray) ts.length, ([((nextN L i1 2 : Nat) : Int), ((2 + (nextN L (nextI L (nextI L i1 2) 2) 2) : Nat) : Int)] : List Int)⟩ : D.Team)]).map D.Team.cells).length)), (.p (.sl true 0 []))]))], []⟩)]
    ⟨StepOK.p rfl rfl rfl (OpOK.fieldRef (fo := 0) rfl rfl (by kernel_rfl) rfl),
    StepOK.p rfl rfl rfl (OpOK.loadBox rfl rfl (by kernel_rfl) rfl),
    StepOK.p rfl rfl rfl (OpOK.loadBoxAgg (z := 2) rfl rfl (by kernel_rfl) (by kernel_rfl) rfl rfl),
    StepOK.p rfl rfl rfl (OpOK.buildSlice (e := 53) (zr := [(pS (ByteArray.mk #[])), (.sl true 0 [])]) rfl (by kernel_rfl) (by kernel_rfl) (by kernel_rfl) (by kernel_rfl) rfl (by kernel_rfl) rfl),
    StepOK.p rfl rfl rfl (OpOK.appendOwn (e := 53) (bytes := 40) rfl rfl (by kernel_rfl) (by kernel_rfl) rfl (Nat.beq_refl _) rfl (by rw [List.map_append]; rfl) rfl (by simp only [List.length_map, List.length_cons, List.length_nil]; omega) (by simp only [List.length_map, List.length_cons, List.length_nil]; omega)),
    StepOK.p rfl rfl rfl (OpOK.fieldRef (fo := 0) rfl rfl (by kernel_rfl) rfl),
    StepOK.p rfl rfl rfl (OpOK.storeBox rfl rfl rfl rfl rfl (by kernel_rfl) (by kernel_rfl) rfl), rfl⟩
    [(0, (.ref 1 0)), (2, (.ref 1002 0)), (3, (.ref 1003 0)), (4, (vI ((n : Nat) : Int)))]
    [(1003, (.box [(.own 2000 (((ts ++ [(⟨nth ([(ByteArray.mk #[99, 111, 114, 101]), (ByteArray.mk #[119, 101, 98])] : List ByteArray) ts.length, ([((nextN L i1 2 : Nat) : Int), ((2 + (nextN L (nextI L (nextI L i1 2) 2) 2) : Nat) : Int)] : List Int)⟩ : D.Team)]).map D.Team.cells).length)), (.p (.sl true 0 []))])), (2000, (.arr 2 ((ts ++ [(⟨nth ([(ByteArray.mk #[99, 111, 114, 101]), (ByteArray.mk #[119, 101, 98])] : List ByteArray) ts.length, ([((nextN L i1 2 : Nat) : Int), ((2 + (nextN L (nextI L (nextI L i1 2) 2) 2) : Nat) : Int)] : List Int)⟩ : D.Team)]).map D.Team.cells))), (1, (.box [(.p (.sl false 1 (L.map D.cInt))), (vI ((nextI L (nextI L (nextI L i1 2) 2) 2 : Nat) : Int))])), (1002, (.box [(.p (.sl true 0 [])), (.p (.sl true 0 []))]))]
    (by kernel_rfl) ?_
   refine blockQ_normal ?_
   refine nextQ_normal ?_
   refine AWp.region' hGn hGk 
    [(some 15, ⟨[(4, (vI ((n : Nat) : Int)))], [], (vI ((n : Nat) : Int)), [], []⟩),
    (some 16, ⟨[(15, (vI ((n : Nat) : Int)))], [], (vI ((n - 1 : Nat) : Int)), [], []⟩),
    (some 4, ⟨[(16, (vI ((n - 1 : Nat) : Int)))], [], (vI ((n - 1 : Nat) : Int)), [], []⟩)]
    ⟨StepOK.p rfl rfl rfl (OpOK.move rfl rfl),
    StepOK.p rfl rfl rfl (OpOK.sub rfl rfl rfl (by rw [IntWalk.i64_in _ ⟨by omega, by omega⟩]; omega)),
    StepOK.p rfl rfl rfl (OpOK.assign rfl rfl), rfl⟩
    [(0, (.ref 1 0)), (2, (.ref 1002 0)), (3, (.ref 1003 0)), (4, (vI ((n - 1 : Nat) : Int)))]
    [(1003, (.box [(.own 2000 (((ts ++ [(⟨nth ([(ByteArray.mk #[99, 111, 114, 101]), (ByteArray.mk #[119, 101, 98])] : List ByteArray) ts.length, ([((nextN L i1 2 : Nat) : Int), ((2 + (nextN L (nextI L (nextI L i1 2) 2) 2) : Nat) : Int)] : List Int)⟩ : D.Team)]).map D.Team.cells).length)), (.p (.sl true 0 []))])), (2000, (.arr 2 ((ts ++ [(⟨nth ([(ByteArray.mk #[99, 111, 114, 101]), (ByteArray.mk #[119, 101, 98])] : List ByteArray) ts.length, ([((nextN L i1 2 : Nat) : Int), ((2 + (nextN L (nextI L (nextI L i1 2) 2) 2) : Nat) : Int)] : List Int)⟩ : D.Team)]).map D.Team.cells))), (1, (.box [(.p (.sl false 1 (L.map D.cInt))), (vI ((nextI L (nextI L (nextI L i1 2) 2) 2 : Nat) : Int))])), (1002, (.box [(.p (.sl true 0 [])), (.p (.sl true 0 []))]))]
    (by kernel_rfl) ?_
   refine nextQ_normal ⟨_, ?_, (n - 1), (ts ++ [(⟨nth ([(ByteArray.mk #[99, 111, 114, 101]), (ByteArray.mk #[119, 101, 98])] : List ByteArray) ts.length, ([((nextN L i1 2 : Nat) : Int), ((2 + (nextN L (nextI L (nextI L i1 2) 2) 2) : Nat) : Int)] : List Int)⟩ : D.Team)]), (nextI L (nextI L (nextI L i1 2) 2) 2), rfl, (by simp only [List.length_append, List.length_cons, List.length_nil]; omega), (by repeat (first | assumption | exact Nat.zero_le _ | apply nextI_le | apply oneI_le | apply targetI_le | apply teamI_le | apply stepI_le | apply policyI_le)), (by rw [← heq, teams_succ (n := n) (by omega), (team_two L i1 ts.length (by assumption)).1, (team_two L i1 ts.length (by assumption)).2]), rfl⟩
   · omega
  ·skip
   replace hc6 := of_decide_eq_false hc6
   refine AWp.skip ?_
   refine nextQ_normal ?_
   refine AWp.weaken (mk [(0, (.ref 1 0)), (2, (.ref 1002 0)), (3, (.ref 1003 0)), (4, (vI ((n : Nat) : Int))), (5, (.ref 1005 0)), (29, (vB (decide (((nextN L (nextI L i1 2) 2 : Nat) : Int) = (0 : Int)))))] [(1003, (.box [(.own 2000 ((ts.map D.Team.cells).length)), (.p (.sl true 0 []))])), (2000, (.arr 2 (ts.map D.Team.cells))), (1, (.box [(.p (.sl false 1 (L.map D.cInt))), (vI ((nextI L (nextI L i1 2) 2 : Nat) : Int))])), (1002, (.box [(.p (.sl true 0 [])), (.p (.sl true 0 []))])), (1005, (.box [(vS (nth ([(ByteArray.mk #[99, 111, 114, 101]), (ByteArray.mk #[119, 101, 98])] : List ByteArray) ts.length)), (.p (.sl false 1 [[(pI ((nextN L i1 2 : Nat) : Int))]]))]))]) (Weak.le ⟨rfl, .refl _, ⟨rfl, .refl _, ⟨rfl, .refl _, ⟨rfl, .refl _, ⟨rfl, .refl _, ⟨rfl, .refl _, trivial⟩⟩⟩⟩⟩⟩ ⟨rfl, .refl _, ⟨rfl, .refl _, ⟨rfl, .refl _, ⟨rfl, .refl _, ⟨rfl, (.box (.cons (.refl _) (.cons (.p (PVle.full _)) .nil))), trivial⟩⟩⟩⟩⟩) ?_
   refine AWp.region' hGn hGk 
    [(some 38, ⟨[(3, (.ref 1003 0))], [(1003, (.box [(.own 2000 ((ts.map D.Team.cells).length)), (.p (.sl true 0 []))]))], (.ref 1003 0), [], []⟩),
    (some 39, ⟨[(38, (.ref 1003 0))], [(1003, (.box [(.own 2000 ((ts.map D.Team.cells).length)), (.p (.sl true 0 []))]))], (.own 2000 ((ts.map D.Team.cells).length)), [], []⟩),
    (some 40, ⟨[(5, (.ref 1005 0))], [(1005, (.box [(vS (nth ([(ByteArray.mk #[99, 111, 114, 101]), (ByteArray.mk #[119, 101, 98])] : List ByteArray) ts.length)), (.p (.sl false 1 [[(pI ((nextN L i1 2 : Nat) : Int))]]))]))], (.agg [(vS (nth ([(ByteArray.mk #[99, 111, 114, 101]), (ByteArray.mk #[119, 101, 98])] : List ByteArray) ts.length)), (.p (.sl false 1 [[(pI ((nextN L i1 2 : Nat) : Int))]]))]), [], []⟩),
    (some 41, ⟨[(40, (.agg [(vS (nth ([(ByteArray.mk #[99, 111, 114, 101]), (ByteArray.mk #[119, 101, 98])] : List ByteArray) ts.length)), (.p (.sl false 1 [[(pI ((nextN L i1 2 : Nat) : Int))]]))]))], [], (.p (.sl true 2 [[(pS (nth ([(ByteArray.mk #[99, 111, 114, 101]), (ByteArray.mk #[119, 101, 98])] : List ByteArray) ts.length)), (.sl false 1 [[(pI ((nextN L i1 2 : Nat) : Int))]])]])), [], []⟩),
    (some 42, ⟨[(39, (.own 2000 ((ts.map D.Team.cells).length))), (41, (.p (.sl true 2 [[(pS (nth ([(ByteArray.mk #[99, 111, 114, 101]), (ByteArray.mk #[119, 101, 98])] : List ByteArray) ts.length)), (.sl false 1 [[(pI ((nextN L i1 2 : Nat) : Int))]])]])))], [(2000, (.arr 2 (ts.map D.Team.cells)))], (.own 2000 (((ts ++ [(⟨nth ([(ByteArray.mk #[99, 111, 114, 101]), (ByteArray.mk #[119, 101, 98])] : List ByteArray) ts.length, ([((nextN L i1 2 : Nat) : Int)] : List Int)⟩ : D.Team)]).map D.Team.cells).length)), [(2000, (.arr 2 ((ts ++ [(⟨nth ([(ByteArray.mk #[99, 111, 114, 101]), (ByteArray.mk #[119, 101, 98])] : List ByteArray) ts.length, ([((nextN L i1 2 : Nat) : Int)] : List Int)⟩ : D.Team)]).map D.Team.cells)))], []⟩),
    (some 43, ⟨[(3, (.ref 1003 0))], [(1003, (.box [(.own 2000 ((ts.map D.Team.cells).length)), (.p (.sl true 0 []))]))], (.ref 1003 0), [], []⟩),
    (none, ⟨[(43, (.ref 1003 0)), (42, (.own 2000 (((ts ++ [(⟨nth ([(ByteArray.mk #[99, 111, 114, 101]), (ByteArray.mk #[119, 101, 98])] : List ByteArray) ts.length, ([((nextN L i1 2 : Nat) : Int)] : List Int)⟩ : D.Team)]).map D.Team.cells).length)))], [(1003, (.box [(.own 2000 ((ts.map D.Team.cells).length)), (.p (.sl true 0 []))]))], .any, [(1003, (.box [(.own 2000 (((ts ++ [(⟨nth ([(ByteArray.mk #[99, 111, 114, 101]), (ByteArray.mk #[119, 101, 98])] : List ByteArray) ts.length, ([((nextN L i1 2 : Nat) : Int)] : List Int)⟩ : D.Team)]).map D.Team.cells).length)), (.p (.sl true 0 []))]))], []⟩)]
    ⟨StepOK.p rfl rfl rfl (OpOK.fieldRef (fo := 0) rfl rfl (by kernel_rfl) rfl),
    StepOK.p rfl rfl rfl (OpOK.loadBox rfl rfl (by kernel_rfl) rfl),
    StepOK.p rfl rfl rfl (OpOK.loadBoxAgg (z := 2) rfl rfl (by kernel_rfl) (by kernel_rfl) rfl rfl),
    StepOK.p rfl rfl rfl (OpOK.buildSlice (e := 53) (zr := [(pS (ByteArray.mk #[])), (.sl true 0 [])]) rfl (by kernel_rfl) (by kernel_rfl) (by kernel_rfl) (by kernel_rfl) rfl (by kernel_rfl) rfl),
    StepOK.p rfl rfl rfl (OpOK.appendOwn (e := 53) (bytes := 40) rfl rfl (by kernel_rfl) (by kernel_rfl) rfl (Nat.beq_refl _) rfl (by rw [List.map_append]; rfl) rfl (by simp only [List.length_map, List.length_cons, List.length_nil]; omega) (by simp only [List.length_map, List.length_cons, List.length_nil]; omega)),
    StepOK.p rfl rfl rfl (OpOK.fieldRef (fo := 0) rfl rfl (by kernel_rfl) rfl),
    StepOK.p rfl rfl rfl (OpOK.storeBox rfl rfl rfl rfl rfl (by kernel_rfl) (by kernel_rfl) rfl), rfl⟩
    [(0, (.ref 1 0)), (2, (.ref 1002 0)), (3, (.ref 1003 0)), (4, (vI ((n : Nat) : Int)))]
    [(1003, (.box [(.own 2000 (((ts ++ [(⟨nth ([(ByteArray.mk #[99, 111, 114, 101]), (ByteArray.mk #[119, 101, 98])] : List ByteArray) ts.length, ([((nextN L i1 2 : Nat) : Int)] : List Int)⟩ : D.Team)]).map D.Team.cells).length)), (.p (.sl true 0 []))])), (2000, (.arr 2 ((ts ++ [(⟨nth ([(ByteArray.mk #[99, 111, 114, 101]), (ByteArray.mk #[119, 101, 98])] : List ByteArray) ts.length, ([((nextN L i1 2 : Nat) : Int)] : List Int)⟩ : D.Team)]).map D.Team.cells))), (1, (.box [(.p (.sl false 1 (L.map D.cInt))), (vI ((nextI L (nextI L i1 2) 2 : Nat) : Int))])), (1002, (.box [(.p (.sl true 0 [])), (.p (.sl true 0 []))]))]
    (by kernel_rfl) ?_
   refine blockQ_normal ?_
   refine nextQ_normal ?_
   refine AWp.region' hGn hGk 
    [(some 15, ⟨[(4, (vI ((n : Nat) : Int)))], [], (vI ((n : Nat) : Int)), [], []⟩),
    (some 16, ⟨[(15, (vI ((n : Nat) : Int)))], [], (vI ((n - 1 : Nat) : Int)), [], []⟩),
    (some 4, ⟨[(16, (vI ((n - 1 : Nat) : Int)))], [], (vI ((n - 1 : Nat) : Int)), [], []⟩)]
    ⟨StepOK.p rfl rfl rfl (OpOK.move rfl rfl),
    StepOK.p rfl rfl rfl (OpOK.sub rfl rfl rfl (by rw [IntWalk.i64_in _ ⟨by omega, by omega⟩]; omega)),
    StepOK.p rfl rfl rfl (OpOK.assign rfl rfl), rfl⟩
    [(0, (.ref 1 0)), (2, (.ref 1002 0)), (3, (.ref 1003 0)), (4, (vI ((n - 1 : Nat) : Int)))]
    [(1003, (.box [(.own 2000 (((ts ++ [(⟨nth ([(ByteArray.mk #[99, 111, 114, 101]), (ByteArray.mk #[119, 101, 98])] : List ByteArray) ts.length, ([((nextN L i1 2 : Nat) : Int)] : List Int)⟩ : D.Team)]).map D.Team.cells).length)), (.p (.sl true 0 []))])), (2000, (.arr 2 ((ts ++ [(⟨nth ([(ByteArray.mk #[99, 111, 114, 101]), (ByteArray.mk #[119, 101, 98])] : List ByteArray) ts.length, ([((nextN L i1 2 : Nat) : Int)] : List Int)⟩ : D.Team)]).map D.Team.cells))), (1, (.box [(.p (.sl false 1 (L.map D.cInt))), (vI ((nextI L (nextI L i1 2) 2 : Nat) : Int))])), (1002, (.box [(.p (.sl true 0 [])), (.p (.sl true 0 []))]))]
    (by kernel_rfl) ?_
   refine nextQ_normal ⟨_, ?_, (n - 1), (ts ++ [(⟨nth ([(ByteArray.mk #[99, 111, 114, 101]), (ByteArray.mk #[119, 101, 98])] : List ByteArray) ts.length, ([((nextN L i1 2 : Nat) : Int)] : List Int)⟩ : D.Team)]), (nextI L (nextI L i1 2) 2), rfl, (by simp only [List.length_append, List.length_cons, List.length_nil]; omega), (by repeat (first | assumption | exact Nat.zero_le _ | apply nextI_le | apply oneI_le | apply targetI_le | apply teamI_le | apply stepI_le | apply policyI_le)), (by rw [← heq, teams_succ (n := n) (by omega), (team_one L i1 ts.length (by assumption)).1, (team_one L i1 ts.length (by assumption)).2]), rfl⟩
   · omega
 ·skip
  replace hc3 := of_decide_eq_false hc3
  refine AWp.weaken (mk [(0, (.ref 1 0)), (2, (.ref 1002 0)), (3, (.ref 1003 0))] [(1003, (.box [(.own 2000 ((ts.map D.Team.cells).length)), (.p (.sl true 0 []))])), (2000, (.arr 2 (ts.map D.Team.cells))), (1, (.box [(.p (.sl false 1 (L.map D.cInt))), (vI ((i1 : Nat) : Int))])), (1002, (.box [(.p (.sl true 0 [])), (.p (.sl true 0 []))]))]) (Weak.sub' hGk (by kernel_rfl)) ?_
  refine AWp.exit ?_
  refine nextQ_exit ?_
  refine nextQ_exit ?_
  refine blockQ_exit ?_
  refine nextQ_normal ?_
  refine AWp.seq ?_
  have heq1 : bookT L i = (ts, i1) := by rw [← heq, show n = 0 from by omega]; rfl
  refine AWp.weaken (mk [(0, (.ref 1 0)), (2, (.ref 1002 0)), (3, (.ref 1003 0))] [(2000, (.arr 2 (ts.map D.Team.cells))), (1003, (.box [(.own 2000 ((ts.map D.Team.cells).length)), (.p (.sl true 0 []))])), (1, (.box [(.p (.sl false 1 (L.map D.cInt))), (vI ((i1 : Nat) : Int))])), (1002, (.box [(.p (.sl true 0 [])), (.p (.sl true 0 []))]))]) (Weak.sub' hGk (by kernel_rfl)) ?_
  refine AWp.weaken (mk [(0, (.ref 1 0)), (2, (.ref 1002 0)), (3, (.ref 1003 0))] [(1003, (.box [(.p (.sl false 2 (ts.map D.Team.cells))), (.p (.sl true 0 []))])), (1, (.box [(.p (.sl false 1 (L.map D.cInt))), (vI ((i1 : Nat) : Int))])), (1002, (.box [(.p (.sl true 0 [])), (.p (.sl true 0 []))]))]) (Weak.freeze (n := 2000) (es := 2) (rows := (ts.map D.Team.cells)) (by rw [hGk]; decide) ⟨rfl, (.same rfl), ⟨rfl, (.same rfl), ⟨rfl, (.same rfl), trivial⟩⟩⟩ ⟨rfl, by decide, (.box (.cons .own (.cons (.same rfl) .nil))), ⟨rfl, by decide, (.same rfl), ⟨rfl, by decide, (.same rfl), trivial⟩⟩⟩) ?_
  have hf8 := nextN_lt L i1 3 (by omega)
  refine AWp.s_region hGn hGk 
   [(some 44, ⟨[(0, (.ref 1 0))], [], (.ref 1 0), [], []⟩),
   (some 45, ⟨[(44, (.ref 1 0))], [(1, (.box [(.p (.sl false 1 (L.map D.cInt))), (vI ((i1 : Nat) : Int))]))], (vI ((nextN L i1 3 : Nat) : Int)), [(1, (.box [(.p (.sl false 1 (L.map D.cInt))), (vI ((nextI L i1 3 : Nat) : Int))]))], []⟩),
   (some 46, ⟨[(45, (vI ((nextN L i1 3 : Nat) : Int)))], [], (vI ((1 + (nextN L i1 3) : Nat) : Int)), [], []⟩),
   (some 6, ⟨[(46, (vI ((1 + (nextN L i1 3) : Nat) : Int)))], [], (vI ((1 + (nextN L i1 3) : Nat) : Int)), [], []⟩)]
   ⟨StepOK.p rfl rfl rfl (OpOK.move rfl rfl),
   StepOK.p rfl rfl rfl (OpOK.call rfl (by kernel_rfl) rfl (made_Next L i1 3 hL (by repeat (first | assumption | exact Nat.zero_le _ | apply nextI_le | apply oneI_le | apply targetI_le | apply teamI_le | apply stepI_le | apply policyI_le)) (by omega)) (by kernel_rfl)),
   StepOK.p rfl rfl rfl (OpOK.add rfl rfl rfl (by rw [IntWalk.i64_in _ ⟨by omega, by omega⟩]; omega)),
   StepOK.p rfl rfl rfl (OpOK.assign rfl rfl), rfl⟩
   [(0, (.ref 1 0)), (2, (.ref 1002 0)), (3, (.ref 1003 0)), (6, (vI ((1 + (nextN L i1 3) : Nat) : Int)))]
   [(1003, (.box [(.p (.sl false 2 (ts.map D.Team.cells))), (.p (.sl true 0 []))])), (1, (.box [(.p (.sl false 1 (L.map D.cInt))), (vI ((nextI L i1 3 : Nat) : Int))])), (1002, (.box [(.p (.sl true 0 [])), (.p (.sl true 0 []))]))]
   (by kernel_rfl) ?_
  refine AWp.block ?_
  refine AWp.weaken (mk [(0, (.ref 1 0)), (2, (.ref 1002 0)), (3, (.ref 1003 0)), (6, (vI ((1 + (nextN L i1 3) : Nat) : Int)))] [(1003, (.box [(.p (.sl false 2 (ts.map D.Team.cells))), (.own 2001 0)])), (2001, (.arr 3 [])), (1, (.box [(.p (.sl false 1 (L.map D.cInt))), (vI ((nextI L i1 3 : Nat) : Int))])), (1002, (.box [(.p (.sl true 0 [])), (.p (.sl true 0 []))]))]) (Weak.thawCell (j := 1) (es0 := 0) (by kernel_rfl) rfl rfl (by kernel_rfl) (by kernel_rfl) rfl) ?_
  refine AWp.loop (fun m s => ∃ n1, ∃ (qs : List D.Policy), ∃ i2, s = (mk [(0, (.ref 1 0)), (2, (.ref 1002 0)), (3, (.ref 1003 0)), (6, (vI ((n1 : Nat) : Int)))] [(1003, (.box [(.p (.sl false 2 (ts.map D.Team.cells))), (.own 2001 ((qs.map D.Policy.cells).length))])), (2001, (.arr 3 (qs.map D.Policy.cells))), (1, (.box [(.p (.sl false 1 (L.map D.cInt))), (vI ((i2 : Nat) : Int))])), (1002, (.box [(.p (.sl true 0 [])), (.p (.sl true 0 []))]))]) ∧ (qs.length + n1 ≤ 3) ∧ (i2 ≤ L.length) ∧ (policies L ts.length n1 qs i2 = bookP L i) ∧ m = n1)
   ⟨_, (1 + nextN L i1 3), ([]), (nextI L i1 3), rfl, (by have := nextN_lt L i1 3 (by omega); simp only [List.length_nil]; omega), (by repeat (first | assumption | exact Nat.zero_le _ | apply nextI_le | apply oneI_le | apply targetI_le | apply teamI_le | apply stepI_le | apply policyI_le)), (by unfold bookP; rw [heq1]), rfl⟩ ?_
  rintro mm9 s ⟨n1, qs, i2, rfl, hb1, hi2, heq2, hmm9⟩
  refine AWp.seq ?_
  refine AWp.s_region hGn hGk 
   [(some 47, ⟨[(6, (vI ((n1 : Nat) : Int)))], [], (vI ((n1 : Nat) : Int)), [], []⟩),
   (some 48, ⟨[(47, (vI ((n1 : Nat) : Int)))], [], (vB (decide ((0 : Int) < ((n1 : Nat) : Int)))), [], []⟩)]
   ⟨StepOK.p rfl rfl rfl (OpOK.move rfl rfl),
   StepOK.p rfl rfl rfl (OpOK.gtr rfl rfl rfl rfl), rfl⟩
   [(0, (.ref 1 0)), (2, (.ref 1002 0)), (3, (.ref 1003 0)), (6, (vI ((n1 : Nat) : Int))), (48, (vB (decide ((0 : Int) < ((n1 : Nat) : Int)))))]
   [(1003, (.box [(.p (.sl false 2 (ts.map D.Team.cells))), (.own 2001 ((qs.map D.Policy.cells).length))])), (2001, (.arr 3 (qs.map D.Policy.cells))), (1, (.box [(.p (.sl false 1 (L.map D.cInt))), (vI ((i2 : Nat) : Int))])), (1002, (.box [(.p (.sl true 0 [])), (.p (.sl true 0 []))]))]
   (by kernel_rfl) ?_
  refine AWp.cond (decide ((0 : Int) < ((n1 : Nat) : Int))) rfl (fun hc10 => ?_) (fun hc10 => ?_)
  ·skip
   replace hc10 := of_decide_eq_true hc10
   refine AWp.skip ?_
   refine nextQ_normal ?_
   refine AWp.seq ?_
   refine AWp.block ?_
   refine AWp.s_draw hGn hGk (by kernel_rfl)
    [(some 51, ⟨[], [], (.p (.sl true 1 [[(pS (ByteArray.mk #[112]))], [(pS (ByteArray.mk #[113]))], [(pS (ByteArray.mk #[114]))]])), [], []⟩),
    (some 52, ⟨[(3, (.ref 1003 0))], [(1003, (.box [(.p (.sl false 2 (ts.map D.Team.cells))), (.own 2001 ((qs.map D.Policy.cells).length))]))], (.ref 1003 1), [], []⟩),
    (some 53, ⟨[(52, (.ref 1003 1))], [(1003, (.box [(.p (.sl false 2 (ts.map D.Team.cells))), (.own 2001 ((qs.map D.Policy.cells).length))]))], (.own 2001 ((qs.map D.Policy.cells).length)), [], []⟩),
    (some 54, ⟨[(53, (.own 2001 ((qs.map D.Policy.cells).length)))], [(2001, (.arr 3 (qs.map D.Policy.cells)))], (vI ((qs.length : Nat) : Int)), [], []⟩),
    (some 55, ⟨[(51, (.p (.sl true 1 [[(pS (ByteArray.mk #[112]))], [(pS (ByteArray.mk #[113]))], [(pS (ByteArray.mk #[114]))]]))), (54, (vI ((qs.length : Nat) : Int)))], [], (.eptr [(pS (nth ([(ByteArray.mk #[112]), (ByteArray.mk #[113]), (ByteArray.mk #[114])] : List ByteArray) qs.length))]), [], []⟩),
    (some 56, ⟨[(55, (.eptr [(pS (nth ([(ByteArray.mk #[112]), (ByteArray.mk #[113]), (ByteArray.mk #[114])] : List ByteArray) qs.length))]))], [], (vS (nth ([(ByteArray.mk #[112]), (ByteArray.mk #[113]), (ByteArray.mk #[114])] : List ByteArray) qs.length)), [], []⟩),
    (some 57, ⟨[(0, (.ref 1 0))], [], (.ref 1 0), [], []⟩),
    (some 58, ⟨[], [], (.p (.sl true 1 [[(pI 0)], [(pI 0)], [(pI 1)], [(pI 2)]])), [], []⟩),
    (some 59, ⟨[(57, (.ref 1 0)), (58, (.p (.sl true 1 [[(pI 0)], [(pI 0)], [(pI 1)], [(pI 2)]])))], [(1, (.box [(.p (.sl false 1 (L.map D.cInt))), (vI ((i2 : Nat) : Int))]))], (vI (oneV L i2 ([0, 0, 1, 2] : List Int))), [(1, (.box [(.p (.sl false 1 (L.map D.cInt))), (vI ((oneI L i2 ([0, 0, 1, 2] : List Int) : Nat) : Int))]))], []⟩),
    (some 60, ⟨[(56, (vS (nth ([(ByteArray.mk #[112]), (ByteArray.mk #[113]), (ByteArray.mk #[114])] : List ByteArray) qs.length))), (59, (vI (oneV L i2 ([0, 0, 1, 2] : List Int))))], [], (.agg [(vS (nth ([(ByteArray.mk #[112]), (ByteArray.mk #[113]), (ByteArray.mk #[114])] : List ByteArray) qs.length)), (.p (.sl true 0 [])), (vI (oneV L i2 ([0, 0, 1, 2] : List Int)))]), [], []⟩),
    (some 7, ⟨[], [], (.ref 1007 0), [(1007, (.box [(vS (ByteArray.mk #[])), (.p (.sl true 0 [])), (vI 0)]))], [1007]⟩),
    (none, ⟨[(7, (.ref 1007 0)), (60, (.agg [(vS (nth ([(ByteArray.mk #[112]), (ByteArray.mk #[113]), (ByteArray.mk #[114])] : List ByteArray) qs.length)), (.p (.sl true 0 [])), (vI (oneV L i2 ([0, 0, 1, 2] : List Int)))]))], [(1007, (.box [(vS (ByteArray.mk #[])), (.p (.sl true 0 [])), (vI 0)]))], .any, [(1007, (.box [(vS (nth ([(ByteArray.mk #[112]), (ByteArray.mk #[113]), (ByteArray.mk #[114])] : List ByteArray) qs.length)), (.p (.sl true 0 [])), (vI (oneV L i2 ([0, 0, 1, 2] : List Int)))]))], []⟩)]
    ⟨StepOK.p rfl rfl rfl (OpOK.buildSlice (e := 9) (zr := [(pS (ByteArray.mk #[]))]) rfl (by kernel_rfl) (by kernel_rfl) (by kernel_rfl) (by kernel_rfl) rfl (by kernel_rfl) rfl),
    StepOK.p rfl rfl rfl (OpOK.fieldRef (fo := 1) rfl rfl (by kernel_rfl) rfl),
    StepOK.p rfl rfl rfl (OpOK.loadBox rfl rfl (by kernel_rfl) rfl),
    StepOK.p rfl rfl rfl (OpOK.lenOwn (e := 35) rfl rfl (by kernel_rfl) rfl (Nat.beq_refl _) (by rw [List.length_map])),
    StepOK.p rfl rfl rfl (OpOK.indexP (e := 9) rfl (by kernel_rfl) (by kernel_rfl) rfl rfl rfl (map_nth (l := ([(ByteArray.mk #[112]), (ByteArray.mk #[113]), (ByteArray.mk #[114])] : List ByteArray)) (f := D.cStr) (by simp only [List.length_cons, List.length_nil]; omega))),
    StepOK.p rfl rfl rfl (OpOK.loadPtr rfl rfl (by kernel_rfl) rfl),
    StepOK.p rfl rfl rfl (OpOK.move rfl rfl),
    StepOK.p rfl rfl rfl (OpOK.buildSlice (e := 3) (zr := [(pI 0)]) rfl (by kernel_rfl) (by kernel_rfl) (by kernel_rfl) (by kernel_rfl) rfl (by kernel_rfl) rfl),
    StepOK.p rfl rfl rfl (OpOK.call rfl (by kernel_rfl) rfl (made_One L i2 ([0, 0, 1, 2] : List Int) true hL (by repeat (first | assumption | exact Nat.zero_le _ | apply nextI_le | apply oneI_le | apply targetI_le | apply teamI_le | apply stepI_le | apply policyI_le)) (by simp only [List.length_cons, List.length_nil]; omega)) (by kernel_rfl)),
    StepOK.p rfl rfl rfl (OpOK.build (pl := [(0, 1), (1, 1), (2, 1)]) (zs := [(vS (ByteArray.mk #[])), (.p (.sl true 0 [])), (vI 0)]) rfl (by kernel_rfl) (by kernel_rfl) rfl),
    StepOK.p rfl rfl rfl (OpOK.alloc rfl (by kernel_rfl)),
    StepOK.p rfl rfl rfl (OpOK.storeBox rfl rfl rfl rfl rfl (by kernel_rfl) (by kernel_rfl) rfl), rfl⟩
    [(0, (.ref 1 0)), (2, (.ref 1002 0)), (3, (.ref 1003 0)), (6, (vI ((n1 : Nat) : Int))), (7, (.ref 1007 0))]
    [(1003, (.box [(.p (.sl false 2 (ts.map D.Team.cells))), (.own 2001 ((qs.map D.Policy.cells).length))])), (2001, (.arr 3 (qs.map D.Policy.cells))), (1, (.box [(.p (.sl false 1 (L.map D.cInt))), (vI ((oneI L i2 ([0, 0, 1, 2] : List Int) : Nat) : Int))])), (1002, (.box [(.p (.sl true 0 [])), (.p (.sl true 0 []))])), (1007, (.box [(vS (nth ([(ByteArray.mk #[112]), (ByteArray.mk #[113]), (ByteArray.mk #[114])] : List ByteArray) qs.length)), (.p (.sl true 0 [])), (vI (oneV L i2 ([0, 0, 1, 2] : List Int)))]))]
    (by kernel_rfl) (by kernel_rfl) ?_
   refine AWp.seq ?_
   have hf11 := nextN_lt L (oneI L i2 ([0, 0, 1, 2] : List Int)) 3 (by omega)
   refine AWp.s_region hGn hGk 
    [(some 61, ⟨[(0, (.ref 1 0))], [], (.ref 1 0), [], []⟩),
    (some 62, ⟨[(61, (.ref 1 0))], [(1, (.box [(.p (.sl false 1 (L.map D.cInt))), (vI ((oneI L i2 ([0, 0, 1, 2] : List Int) : Nat) : Int))]))], (vI ((nextN L (oneI L i2 ([0, 0, 1, 2] : List Int)) 3 : Nat) : Int)), [(1, (.box [(.p (.sl false 1 (L.map D.cInt))), (vI ((nextI L (oneI L i2 ([0, 0, 1, 2] : List Int)) 3 : Nat) : Int))]))], []⟩),
    (some 63, ⟨[(62, (vI ((nextN L (oneI L i2 ([0, 0, 1, 2] : List Int)) 3 : Nat) : Int)))], [], (vI ((1 + (nextN L (oneI L i2 ([0, 0, 1, 2] : List Int)) 3) : Nat) : Int)), [], []⟩),
    (some 8, ⟨[(63, (vI ((1 + (nextN L (oneI L i2 ([0, 0, 1, 2] : List Int)) 3) : Nat) : Int)))], [], (vI ((1 + (nextN L (oneI L i2 ([0, 0, 1, 2] : List Int)) 3) : Nat) : Int)), [], []⟩)]
    ⟨StepOK.p rfl rfl rfl (OpOK.move rfl rfl),
    StepOK.p rfl rfl rfl (OpOK.call rfl (by kernel_rfl) rfl (made_Next L (oneI L i2 ([0, 0, 1, 2] : List Int)) 3 hL (by repeat (first | assumption | exact Nat.zero_le _ | apply nextI_le | apply oneI_le | apply targetI_le | apply teamI_le | apply stepI_le | apply policyI_le)) (by omega)) (by kernel_rfl)),
    StepOK.p rfl rfl rfl (OpOK.add rfl rfl rfl (by rw [IntWalk.i64_in _ ⟨by omega, by omega⟩]; omega)),
    StepOK.p rfl rfl rfl (OpOK.assign rfl rfl), rfl⟩
    [(0, (.ref 1 0)), (2, (.ref 1002 0)), (3, (.ref 1003 0)), (6, (vI ((n1 : Nat) : Int))), (7, (.ref 1007 0)), (8, (vI ((1 + (nextN L (oneI L i2 ([0, 0, 1, 2] : List Int)) 3) : Nat) : Int)))]
    [(1003, (.box [(.p (.sl false 2 (ts.map D.Team.cells))), (.own 2001 ((qs.map D.Policy.cells).length))])), (2001, (.arr 3 (qs.map D.Policy.cells))), (1, (.box [(.p (.sl false 1 (L.map D.cInt))), (vI ((nextI L (oneI L i2 ([0, 0, 1, 2] : List Int)) 3 : Nat) : Int))])), (1002, (.box [(.p (.sl true 0 [])), (.p (.sl true 0 []))])), (1007, (.box [(vS (nth ([(ByteArray.mk #[112]), (ByteArray.mk #[113]), (ByteArray.mk #[114])] : List ByteArray) qs.length)), (.p (.sl true 0 [])), (vI (oneV L i2 ([0, 0, 1, 2] : List Int)))]))]
    (by kernel_rfl) ?_
   refine AWp.block ?_
   refine AWp.weaken (mk [(0, (.ref 1 0)), (2, (.ref 1002 0)), (3, (.ref 1003 0)), (6, (vI ((n1 : Nat) : Int))), (7, (.ref 1007 0)), (8, (vI ((1 + (nextN L (oneI L i2 ([0, 0, 1, 2] : List Int)) 3) : Nat) : Int)))] [(1007, (.box [(vS (nth ([(ByteArray.mk #[112]), (ByteArray.mk #[113]), (ByteArray.mk #[114])] : List ByteArray) qs.length)), (.p (.sl true 0 [])), (vI (oneV L i2 ([0, 0, 1, 2] : List Int)))])), (1003, (.box [(.p (.sl false 2 (ts.map D.Team.cells))), (.own 2001 ((qs.map D.Policy.cells).length))])), (2001, (.arr 3 (qs.map D.Policy.cells))), (1, (.box [(.p (.sl false 1 (L.map D.cInt))), (vI ((nextI L (oneI L i2 ([0, 0, 1, 2] : List Int)) 3 : Nat) : Int))])), (1002, (.box [(.p (.sl true 0 [])), (.p (.sl true 0 []))]))]) (Weak.sub' hGk (by kernel_rfl)) ?_
   refine AWp.weaken (mk [(0, (.ref 1 0)), (2, (.ref 1002 0)), (3, (.ref 1003 0)), (6, (vI ((n1 : Nat) : Int))), (7, (.ref 1007 0)), (8, (vI ((1 + (nextN L (oneI L i2 ([0, 0, 1, 2] : List Int)) 3) : Nat) : Int)))] [(1007, (.box [(vS (nth ([(ByteArray.mk #[112]), (ByteArray.mk #[113]), (ByteArray.mk #[114])] : List ByteArray) qs.length)), (.own 2002 0), (vI (oneV L i2 ([0, 0, 1, 2] : List Int)))])), (2002, (.arr 3 [])), (1003, (.box [(.p (.sl false 2 (ts.map D.Team.cells))), (.own 2001 ((qs.map D.Policy.cells).length))])), (2001, (.arr 3 (qs.map D.Policy.cells))), (1, (.box [(.p (.sl false 1 (L.map D.cInt))), (vI ((nextI L (oneI L i2 ([0, 0, 1, 2] : List Int)) 3 : Nat) : Int))])), (1002, (.box [(.p (.sl true 0 [])), (.p (.sl true 0 []))]))]) (Weak.thawCell (j := 1) (es0 := 0) (by kernel_rfl) rfl rfl (by kernel_rfl) (by kernel_rfl) rfl) ?_
   refine AWp.loop (fun m s => ∃ n2, ∃ (ss : List D.PolicyStep), ∃ i3, s = (mk [(0, (.ref 1 0)), (2, (.ref 1002 0)), (3, (.ref 1003 0)), (6, (vI ((n1 : Nat) : Int))), (7, (.ref 1007 0)), (8, (vI ((n2 : Nat) : Int)))] [(1007, (.box [(vS (nth ([(ByteArray.mk #[112]), (ByteArray.mk #[113]), (ByteArray.mk #[114])] : List ByteArray) qs.length)), (.own 2002 ((ss.map D.PolicyStep.cells).length)), (vI (oneV L i2 ([0, 0, 1, 2] : List Int)))])), (2002, (.arr 3 (ss.map D.PolicyStep.cells))), (1003, (.box [(.p (.sl false 2 (ts.map D.Team.cells))), (.own 2001 ((qs.map D.Policy.cells).length))])), (2001, (.arr 3 (qs.map D.Policy.cells))), (1, (.box [(.p (.sl false 1 (L.map D.cInt))), (vI ((i3 : Nat) : Int))])), (1002, (.box [(.p (.sl true 0 [])), (.p (.sl true 0 []))]))]) ∧ (ss.length + n2 ≤ 3) ∧ (i3 ≤ L.length) ∧ (steps L ts.length n2 ss i3 = policyS L ts.length i2) ∧ m = n2)
    ⟨_, (1 + nextN L (oneI L i2 [0, 0, 1, 2]) 3), ([]), (nextI L (oneI L i2 [0, 0, 1, 2]) 3), rfl, (by have := nextN_lt L (oneI L i2 [0, 0, 1, 2]) 3 (by omega); simp only [List.length_nil]; omega), (by repeat (first | assumption | exact Nat.zero_le _ | apply nextI_le | apply oneI_le | apply targetI_le | apply teamI_le | apply stepI_le | apply policyI_le)), rfl, rfl⟩ ?_
   rintro mm12 s ⟨n2, ss, i3, rfl, hb2, hi3, heq3, hmm12⟩
   refine AWp.seq ?_
   refine AWp.s_region hGn hGk 
    [(some 64, ⟨[(8, (vI ((n2 : Nat) : Int)))], [], (vI ((n2 : Nat) : Int)), [], []⟩),
    (some 65, ⟨[(64, (vI ((n2 : Nat) : Int)))], [], (vB (decide ((0 : Int) < ((n2 : Nat) : Int)))), [], []⟩)]
    ⟨StepOK.p rfl rfl rfl (OpOK.move rfl rfl),
    StepOK.p rfl rfl rfl (OpOK.gtr rfl rfl rfl rfl), rfl⟩
    [(0, (.ref 1 0)), (2, (.ref 1002 0)), (3, (.ref 1003 0)), (6, (vI ((n1 : Nat) : Int))), (7, (.ref 1007 0)), (8, (vI ((n2 : Nat) : Int))), (65, (vB (decide ((0 : Int) < ((n2 : Nat) : Int)))))]
    [(1007, (.box [(vS (nth ([(ByteArray.mk #[112]), (ByteArray.mk #[113]), (ByteArray.mk #[114])] : List ByteArray) qs.length)), (.own 2002 ((ss.map D.PolicyStep.cells).length)), (vI (oneV L i2 ([0, 0, 1, 2] : List Int)))])), (2002, (.arr 3 (ss.map D.PolicyStep.cells))), (1003, (.box [(.p (.sl false 2 (ts.map D.Team.cells))), (.own 2001 ((qs.map D.Policy.cells).length))])), (2001, (.arr 3 (qs.map D.Policy.cells))), (1, (.box [(.p (.sl false 1 (L.map D.cInt))), (vI ((i3 : Nat) : Int))])), (1002, (.box [(.p (.sl true 0 [])), (.p (.sl true 0 []))]))]
    (by kernel_rfl) ?_
   refine AWp.cond (decide ((0 : Int) < ((n2 : Nat) : Int))) rfl (fun hc13 => ?_) (fun hc13 => ?_)
   ·skip
    replace hc13 := of_decide_eq_true hc13
    refine AWp.skip ?_
    refine nextQ_normal ?_
    refine AWp.seq ?_
    refine AWp.block ?_
    have hf14 := nextN_lt L (oneI L i3 ([0, 60, 300, 600, 900] : List Int)) 2 (by omega)
    refine AWp.s_region hGn hGk 
     [(some 68, ⟨[(0, (.ref 1 0))], [], (.ref 1 0), [], []⟩),
     (some 69, ⟨[], [], (.p (.sl true 1 [[(pI 0)], [(pI 60)], [(pI 300)], [(pI 600)], [(pI 900)]])), [], []⟩),
     (some 70, ⟨[(68, (.ref 1 0)), (69, (.p (.sl true 1 [[(pI 0)], [(pI 60)], [(pI 300)], [(pI 600)], [(pI 900)]])))], [(1, (.box [(.p (.sl false 1 (L.map D.cInt))), (vI ((i3 : Nat) : Int))]))], (vI (oneV L i3 ([0, 60, 300, 600, 900] : List Int))), [(1, (.box [(.p (.sl false 1 (L.map D.cInt))), (vI ((oneI L i3 ([0, 60, 300, 600, 900] : List Int) : Nat) : Int))]))], []⟩),
     (some 71, ⟨[(0, (.ref 1 0))], [], (.ref 1 0), [], []⟩),
     (some 72, ⟨[(71, (.ref 1 0))], [(1, (.box [(.p (.sl false 1 (L.map D.cInt))), (vI ((oneI L i3 ([0, 60, 300, 600, 900] : List Int) : Nat) : Int))]))], (vI ((nextN L (oneI L i3 ([0, 60, 300, 600, 900] : List Int)) 2 : Nat) : Int)), [(1, (.box [(.p (.sl false 1 (L.map D.cInt))), (vI ((nextI L (oneI L i3 ([0, 60, 300, 600, 900] : List Int)) 2 : Nat) : Int))]))], []⟩),
     (some 73, ⟨[(72, (vI ((nextN L (oneI L i3 ([0, 60, 300, 600, 900] : List Int)) 2 : Nat) : Int)))], [], (vB (decide (((nextN L (oneI L i3 ([0, 60, 300, 600, 900] : List Int)) 2 : Nat) : Int) = (0 : Int)))), [], []⟩),
     (some 74, ⟨[(70, (vI (oneV L i3 ([0, 60, 300, 600, 900] : List Int)))), (73, (vB (decide (((nextN L (oneI L i3 ([0, 60, 300, 600, 900] : List Int)) 2 : Nat) : Int) = (0 : Int)))))], [], (.agg [(vI (oneV L i3 ([0, 60, 300, 600, 900] : List Int))), (vB (decide (((nextN L (oneI L i3 ([0, 60, 300, 600, 900] : List Int)) 2 : Nat) : Int) = (0 : Int)))), (.p (.sl true 0 []))]), [], []⟩),
     (some 9, ⟨[], [], (.ref 1009 0), [(1009, (.box [(vI 0), (vB false), (.p (.sl true 0 []))]))], [1009]⟩),
     (none, ⟨[(9, (.ref 1009 0)), (74, (.agg [(vI (oneV L i3 ([0, 60, 300, 600, 900] : List Int))), (vB (decide (((nextN L (oneI L i3 ([0, 60, 300, 600, 900] : List Int)) 2 : Nat) : Int) = (0 : Int)))), (.p (.sl true 0 []))]))], [(1009, (.box [(vI 0), (vB false), (.p (.sl true 0 []))]))], .any, [(1009, (.box [(vI (oneV L i3 ([0, 60, 300, 600, 900] : List Int))), (vB (decide (((nextN L (oneI L i3 ([0, 60, 300, 600, 900] : List Int)) 2 : Nat) : Int) = (0 : Int)))), (.p (.sl true 0 []))]))], []⟩)]
     ⟨StepOK.p rfl rfl rfl (OpOK.move rfl rfl),
     StepOK.p rfl rfl rfl (OpOK.buildSlice (e := 3) (zr := [(pI 0)]) rfl (by kernel_rfl) (by kernel_rfl) (by kernel_rfl) (by kernel_rfl) rfl (by kernel_rfl) rfl),
     StepOK.p rfl rfl rfl (OpOK.call rfl (by kernel_rfl) rfl (made_One L i3 ([0, 60, 300, 600, 900] : List Int) true hL (by repeat (first | assumption | exact Nat.zero_le _ | apply nextI_le | apply oneI_le | apply targetI_le | apply teamI_le | apply stepI_le | apply policyI_le)) (by simp only [List.length_cons, List.length_nil]; omega)) (by kernel_rfl)),
     StepOK.p rfl rfl rfl (OpOK.move rfl rfl),
     StepOK.p rfl rfl rfl (OpOK.call rfl (by kernel_rfl) rfl (made_Next L (oneI L i3 ([0, 60, 300, 600, 900] : List Int)) 2 hL (by repeat (first | assumption | exact Nat.zero_le _ | apply nextI_le | apply oneI_le | apply targetI_le | apply teamI_le | apply stepI_le | apply policyI_le)) (by omega)) (by kernel_rfl)),
     StepOK.p rfl rfl rfl (OpOK.eqlI rfl rfl rfl rfl),
     StepOK.p rfl rfl rfl (OpOK.build (pl := [(0, 1), (1, 1), (2, 1)]) (zs := [(vI 0), (vB false), (.p (.sl true 0 []))]) rfl (by kernel_rfl) (by kernel_rfl) rfl),
     StepOK.p rfl rfl rfl (OpOK.alloc rfl (by kernel_rfl)),
     StepOK.p rfl rfl rfl (OpOK.storeBox rfl rfl rfl rfl rfl (by kernel_rfl) (by kernel_rfl) rfl), rfl⟩
     [(0, (.ref 1 0)), (2, (.ref 1002 0)), (3, (.ref 1003 0)), (6, (vI ((n1 : Nat) : Int))), (7, (.ref 1007 0)), (8, (vI ((n2 : Nat) : Int))), (9, (.ref 1009 0))]
     [(1007, (.box [(vS (nth ([(ByteArray.mk #[112]), (ByteArray.mk #[113]), (ByteArray.mk #[114])] : List ByteArray) qs.length)), (.own 2002 ((ss.map D.PolicyStep.cells).length)), (vI (oneV L i2 ([0, 0, 1, 2] : List Int)))])), (2002, (.arr 3 (ss.map D.PolicyStep.cells))), (1003, (.box [(.p (.sl false 2 (ts.map D.Team.cells))), (.own 2001 ((qs.map D.Policy.cells).length))])), (2001, (.arr 3 (qs.map D.Policy.cells))), (1, (.box [(.p (.sl false 1 (L.map D.cInt))), (vI ((nextI L (oneI L i3 ([0, 60, 300, 600, 900] : List Int)) 2 : Nat) : Int))])), (1002, (.box [(.p (.sl true 0 [])), (.p (.sl true 0 []))])), (1009, (.box [(vI (oneV L i3 ([0, 60, 300, 600, 900] : List Int))), (vB (decide (((nextN L (oneI L i3 ([0, 60, 300, 600, 900] : List Int)) 2 : Nat) : Int) = (0 : Int)))), (.p (.sl true 0 []))]))]
     (by kernel_rfl) ?_
    refine AWp.seq ?_
    have hf15 := nextN_lt L (nextI L (oneI L i3 ([0, 60, 300, 600, 900] : List Int)) 2) 3 (by omega)
    refine AWp.s_region hGn hGk 
     [(some 75, ⟨[(0, (.ref 1 0))], [], (.ref 1 0), [], []⟩),
     (some 76, ⟨[(75, (.ref 1 0))], [(1, (.box [(.p (.sl false 1 (L.map D.cInt))), (vI ((nextI L (oneI L i3 ([0, 60, 300, 600, 900] : List Int)) 2 : Nat) : Int))]))], (vI ((nextN L (nextI L (oneI L i3 ([0, 60, 300, 600, 900] : List Int)) 2) 3 : Nat) : Int)), [(1, (.box [(.p (.sl false 1 (L.map D.cInt))), (vI ((nextI L (nextI L (oneI L i3 ([0, 60, 300, 600, 900] : List Int)) 2) 3 : Nat) : Int))]))], []⟩),
     (some 10, ⟨[(76, (vI ((nextN L (nextI L (oneI L i3 ([0, 60, 300, 600, 900] : List Int)) 2) 3 : Nat) : Int)))], [], (vI ((nextN L (nextI L (oneI L i3 ([0, 60, 300, 600, 900] : List Int)) 2) 3 : Nat) : Int)), [], []⟩)]
     ⟨StepOK.p rfl rfl rfl (OpOK.move rfl rfl),
     StepOK.p rfl rfl rfl (OpOK.call rfl (by kernel_rfl) rfl (made_Next L (nextI L (oneI L i3 ([0, 60, 300, 600, 900] : List Int)) 2) 3 hL (by repeat (first | assumption | exact Nat.zero_le _ | apply nextI_le | apply oneI_le | apply targetI_le | apply teamI_le | apply stepI_le | apply policyI_le)) (by omega)) (by kernel_rfl)),
     StepOK.p rfl rfl rfl (OpOK.assign rfl rfl), rfl⟩
     [(0, (.ref 1 0)), (2, (.ref 1002 0)), (3, (.ref 1003 0)), (6, (vI ((n1 : Nat) : Int))), (7, (.ref 1007 0)), (8, (vI ((n2 : Nat) : Int))), (9, (.ref 1009 0)), (10, (vI ((nextN L (nextI L (oneI L i3 ([0, 60, 300, 600, 900] : List Int)) 2) 3 : Nat) : Int)))]
     [(1007, (.box [(vS (nth ([(ByteArray.mk #[112]), (ByteArray.mk #[113]), (ByteArray.mk #[114])] : List ByteArray) qs.length)), (.own 2002 ((ss.map D.PolicyStep.cells).length)), (vI (oneV L i2 ([0, 0, 1, 2] : List Int)))])), (2002, (.arr 3 (ss.map D.PolicyStep.cells))), (1003, (.box [(.p (.sl false 2 (ts.map D.Team.cells))), (.own 2001 ((qs.map D.Policy.cells).length))])), (2001, (.arr 3 (qs.map D.Policy.cells))), (1, (.box [(.p (.sl false 1 (L.map D.cInt))), (vI ((nextI L (nextI L (oneI L i3 ([0, 60, 300, 600, 900] : List Int)) 2) 3 : Nat) : Int))])), (1002, (.box [(.p (.sl true 0 [])), (.p (.sl true 0 []))])), (1009, (.box [(vI (oneV L i3 ([0, 60, 300, 600, 900] : List Int))), (vB (decide (((nextN L (oneI L i3 ([0, 60, 300, 600, 900] : List Int)) 2 : Nat) : Int) = (0 : Int)))), (.p (.sl true 0 []))]))]
     (by kernel_rfl) ?_
    refine AWp.block ?_
    refine AWp.weaken (mk [(0, (.ref 1 0)), (2, (.ref 1002 0)), (3, (.ref 1003 0)), (6, (vI ((n1 : Nat) : Int))), (7, (.ref 1007 0)), (8, (vI ((n2 : Nat) : Int))), (9, (.ref 1009 0)), (10, (vI ((nextN L (nextI L (oneI L i3 ([0, 60, 300, 600, 900] : List Int)) 2) 3 : Nat) : Int)))] [(1009, (.box [(vI (oneV L i3 ([0, 60, 300, 600, 900] : List Int))), (vB (decide (((nextN L (oneI L i3 ([0, 60, 300, 600, 900] : List Int)) 2 : Nat) : Int) = (0 : Int)))), (.p (.sl true 0 []))])), (1007, (.box [(vS (nth ([(ByteArray.mk #[112]), (ByteArray.mk #[113]), (ByteArray.mk #[114])] : List ByteArray) qs.length)), (.own 2002 ((ss.map D.PolicyStep.cells).length)), (vI (oneV L i2 ([0, 0, 1, 2] : List Int)))])), (2002, (.arr 3 (ss.map D.PolicyStep.cells))), (1003, (.box [(.p (.sl false 2 (ts.map D.Team.cells))), (.own 2001 ((qs.map D.Policy.cells).length))])), (2001, (.arr 3 (qs.map D.Policy.cells))), (1, (.box [(.p (.sl false 1 (L.map D.cInt))), (vI ((nextI L (nextI L (oneI L i3 ([0, 60, 300, 600, 900] : List Int)) 2) 3 : Nat) : Int))])), (1002, (.box [(.p (.sl true 0 [])), (.p (.sl true 0 []))]))]) (Weak.sub' hGk (by kernel_rfl)) ?_
    refine AWp.weaken (mk [(0, (.ref 1 0)), (2, (.ref 1002 0)), (3, (.ref 1003 0)), (6, (vI ((n1 : Nat) : Int))), (7, (.ref 1007 0)), (8, (vI ((n2 : Nat) : Int))), (9, (.ref 1009 0)), (10, (vI ((nextN L (nextI L (oneI L i3 ([0, 60, 300, 600, 900] : List Int)) 2) 3 : Nat) : Int)))] [(1009, (.box [(vI (oneV L i3 ([0, 60, 300, 600, 900] : List Int))), (vB (decide (((nextN L (oneI L i3 ([0, 60, 300, 600, 900] : List Int)) 2 : Nat) : Int) = (0 : Int)))), (.own 2003 0)])), (2003, (.arr 2 [])), (1007, (.box [(vS (nth ([(ByteArray.mk #[112]), (ByteArray.mk #[113]), (ByteArray.mk #[114])] : List ByteArray) qs.length)), (.own 2002 ((ss.map D.PolicyStep.cells).length)), (vI (oneV L i2 ([0, 0, 1, 2] : List Int)))])), (2002, (.arr 3 (ss.map D.PolicyStep.cells))), (1003, (.box [(.p (.sl false 2 (ts.map D.Team.cells))), (.own 2001 ((qs.map D.Policy.cells).length))])), (2001, (.arr 3 (qs.map D.Policy.cells))), (1, (.box [(.p (.sl false 1 (L.map D.cInt))), (vI ((nextI L (nextI L (oneI L i3 ([0, 60, 300, 600, 900] : List Int)) 2) 3 : Nat) : Int))])), (1002, (.box [(.p (.sl true 0 [])), (.p (.sl true 0 []))]))]) (Weak.thawCell (j := 2) (es0 := 0) (by kernel_rfl) rfl rfl (by kernel_rfl) (by kernel_rfl) rfl) ?_
    refine AWp.loop (fun m s => ∃ n3, ∃ (tt : List D.Target), ∃ i4, s = (mk [(0, (.ref 1 0)), (2, (.ref 1002 0)), (3, (.ref 1003 0)), (6, (vI ((n1 : Nat) : Int))), (7, (.ref 1007 0)), (8, (vI ((n2 : Nat) : Int))), (9, (.ref 1009 0)), (10, (vI ((n3 : Nat) : Int)))] [(1009, (.box [(vI (oneV L i3 ([0, 60, 300, 600, 900] : List Int))), (vB (decide (((nextN L (oneI L i3 ([0, 60, 300, 600, 900] : List Int)) 2 : Nat) : Int) = (0 : Int)))), (.own 2003 ((tt.map D.Target.cells).length))])), (2003, (.arr 2 (tt.map D.Target.cells))), (1007, (.box [(vS (nth ([(ByteArray.mk #[112]), (ByteArray.mk #[113]), (ByteArray.mk #[114])] : List ByteArray) qs.length)), (.own 2002 ((ss.map D.PolicyStep.cells).length)), (vI (oneV L i2 ([0, 0, 1, 2] : List Int)))])), (2002, (.arr 3 (ss.map D.PolicyStep.cells))), (1003, (.box [(.p (.sl false 2 (ts.map D.Team.cells))), (.own 2001 ((qs.map D.Policy.cells).length))])), (2001, (.arr 3 (qs.map D.Policy.cells))), (1, (.box [(.p (.sl false 1 (L.map D.cInt))), (vI ((i4 : Nat) : Int))])), (1002, (.box [(.p (.sl true 0 [])), (.p (.sl true 0 []))]))]) ∧ (tt.length + n3 ≤ 2) ∧ (i4 ≤ L.length) ∧ (targets L ts.length n3 tt i4 = stepT L ts.length i3) ∧ m = n3)
     ⟨_, (nextN L (nextI L (oneI L i3 [0, 60, 300, 600, 900]) 2) 3), ([]), (nextI L (nextI L (oneI L i3 [0, 60, 300, 600, 900]) 2) 3), rfl, (by have := nextN_lt L (nextI L (oneI L i3 [0, 60, 300, 600, 900]) 2) 3 (by omega); simp only [List.length_nil]; omega), (by repeat (first | assumption | exact Nat.zero_le _ | apply nextI_le | apply oneI_le | apply targetI_le | apply teamI_le | apply stepI_le | apply policyI_le)), rfl, rfl⟩ ?_
    rintro mm16 s ⟨n3, tt, i4, rfl, hb3, hi4, heq4, hmm16⟩
    refine AWp.seq ?_
    refine AWp.s_region hGn hGk 
     [(some 77, ⟨[(10, (vI ((n3 : Nat) : Int)))], [], (vI ((n3 : Nat) : Int)), [], []⟩),
     (some 78, ⟨[(77, (vI ((n3 : Nat) : Int)))], [], (vB (decide ((0 : Int) < ((n3 : Nat) : Int)))), [], []⟩)]
     ⟨StepOK.p rfl rfl rfl (OpOK.move rfl rfl),
     StepOK.p rfl rfl rfl (OpOK.gtr rfl rfl rfl rfl), rfl⟩
     [(0, (.ref 1 0)), (2, (.ref 1002 0)), (3, (.ref 1003 0)), (6, (vI ((n1 : Nat) : Int))), (7, (.ref 1007 0)), (8, (vI ((n2 : Nat) : Int))), (9, (.ref 1009 0)), (10, (vI ((n3 : Nat) : Int))), (78, (vB (decide ((0 : Int) < ((n3 : Nat) : Int)))))]
     [(1009, (.box [(vI (oneV L i3 ([0, 60, 300, 600, 900] : List Int))), (vB (decide (((nextN L (oneI L i3 ([0, 60, 300, 600, 900] : List Int)) 2 : Nat) : Int) = (0 : Int)))), (.own 2003 ((tt.map D.Target.cells).length))])), (2003, (.arr 2 (tt.map D.Target.cells))), (1007, (.box [(vS (nth ([(ByteArray.mk #[112]), (ByteArray.mk #[113]), (ByteArray.mk #[114])] : List ByteArray) qs.length)), (.own 2002 ((ss.map D.PolicyStep.cells).length)), (vI (oneV L i2 ([0, 0, 1, 2] : List Int)))])), (2002, (.arr 3 (ss.map D.PolicyStep.cells))), (1003, (.box [(.p (.sl false 2 (ts.map D.Team.cells))), (.own 2001 ((qs.map D.Policy.cells).length))])), (2001, (.arr 3 (qs.map D.Policy.cells))), (1, (.box [(.p (.sl false 1 (L.map D.cInt))), (vI ((i4 : Nat) : Int))])), (1002, (.box [(.p (.sl true 0 [])), (.p (.sl true 0 []))]))]
     (by kernel_rfl) ?_
    refine AWp.cond (decide ((0 : Int) < ((n3 : Nat) : Int))) rfl (fun hc17 => ?_) (fun hc17 => ?_)
    ·skip
     replace hc17 := of_decide_eq_true hc17
     refine AWp.skip ?_
     refine nextQ_normal ?_
     refine AWp.seq ?_
     refine AWp.block ?_
     refine AWp.draw' hGn hGk (by kernel_rfl)
      [(some 81, ⟨[(9, (.ref 1009 0))], [(1009, (.box [(vI (oneV L i3 ([0, 60, 300, 600, 900] : List Int))), (vB (decide (((nextN L (oneI L i3 ([0, 60, 300, 600, 900] : List Int)) 2 : Nat) : Int) = (0 : Int)))), (.own 2003 ((tt.map D.Target.cells).length))]))], (.ref 1009 2), [], []⟩),
      (some 82, ⟨[(81, (.ref 1009 2))], [(1009, (.box [(vI (oneV L i3 ([0, 60, 300, 600, 900] : List Int))), (vB (decide (((nextN L (oneI L i3 ([0, 60, 300, 600, 900] : List Int)) 2 : Nat) : Int) = (0 : Int)))), (.own 2003 ((tt.map D.Target.cells).length))]))], (.own 2003 ((tt.map D.Target.cells).length)), [], []⟩),
      (some 83, ⟨[(0, (.ref 1 0))], [], (.ref 1 0), [], []⟩),
      (some 84, ⟨[(3, (.ref 1003 0))], [(1003, (.box [(.p (.sl false 2 (ts.map D.Team.cells))), (.own 2001 ((qs.map D.Policy.cells).length))]))], (.agg [(.p (.sl false 2 (ts.map D.Team.cells))), (.own 2001 ((qs.map D.Policy.cells).length))]), [], []⟩),
      (some 85, ⟨[(83, (.ref 1 0)), (84, (.agg [(.p (.sl false 2 (ts.map D.Team.cells))), (.own 2001 ((qs.map D.Policy.cells).length))]))], [(1, (.box [(.p (.sl false 1 (L.map D.cInt))), (vI ((i4 : Nat) : Int))]))], (.agg [(vI ((target L i4 ts.length).Kind)), (vI ((target L i4 ts.length).Index))]), [(1, (.box [(.p (.sl false 1 (L.map D.cInt))), (vI ((targetI L i4 ts.length : Nat) : Int))]))], []⟩),
      (some 86, ⟨[(85, (.agg [(vI ((target L i4 ts.length).Kind)), (vI ((target L i4 ts.length).Index))]))], [], (.p (.sl true 2 [[(pI ((target L i4 ts.length).Kind)), (pI ((target L i4 ts.length).Index))]])), [], []⟩),
      (some 87, ⟨[(82, (.own 2003 ((tt.map D.Target.cells).length))), (86, (.p (.sl true 2 [[(pI ((target L i4 ts.length).Kind)), (pI ((target L i4 ts.length).Index))]])))], [(2003, (.arr 2 (tt.map D.Target.cells)))], (.own 2003 (((tt ++ [(target L i4 ts.length)]).map D.Target.cells).length)), [(2003, (.arr 2 ((tt ++ [(target L i4 ts.length)]).map D.Target.cells)))], []⟩),
      (some 88, ⟨[(9, (.ref 1009 0))], [(1009, (.box [(vI (oneV L i3 ([0, 60, 300, 600, 900] : List Int))), (vB (decide (((nextN L (oneI L i3 ([0, 60, 300, 600, 900] : List Int)) 2 : Nat) : Int) = (0 : Int)))), (.own 2003 ((tt.map D.Target.cells).length))]))], (.ref 1009 2), [], []⟩),
      (none, ⟨[(88, (.ref 1009 2)), (87, (.own 2003 (((tt ++ [(target L i4 ts.length)]).map D.Target.cells).length)))], [(1009, (.box [(vI (oneV L i3 ([0, 60, 300, 600, 900] : List Int))), (vB (decide (((nextN L (oneI L i3 ([0, 60, 300, 600, 900] : List Int)) 2 : Nat) : Int) = (0 : Int)))), (.own 2003 ((tt.map D.Target.cells).length))]))], .any, [(1009, (.box [(vI (oneV L i3 ([0, 60, 300, 600, 900] : List Int))), (vB (decide (((nextN L (oneI L i3 ([0, 60, 300, 600, 900] : List Int)) 2 : Nat) : Int) = (0 : Int)))), (.own 2003 (((tt ++ [(target L i4 ts.length)]).map D.Target.cells).length))]))], []⟩)]
      ⟨StepOK.p rfl rfl rfl (OpOK.fieldRef (fo := 2) rfl rfl (by kernel_rfl) rfl),
      StepOK.p rfl rfl rfl (OpOK.loadBox rfl rfl (by kernel_rfl) rfl),
      StepOK.p rfl rfl rfl (OpOK.move rfl rfl),
      StepOK.p rfl rfl rfl (OpOK.loadBoxAgg (z := 2) rfl rfl (by kernel_rfl) (by kernel_rfl) rfl rfl),
      StepOK.p rfl rfl rfl (OpOK.call rfl (by kernel_rfl) rfl (Spec.argsLe (made_Target L i4 ts false hL (by repeat (first | assumption | exact Nat.zero_le _ | apply nextI_le | apply oneI_le | apply targetI_le | apply teamI_le | apply stepI_le | apply policyI_le)) (by omega)) (.cons (.refl _) (.cons (.agg (.cons (.refl _) (.cons (.any rfl (by intro cs h; cases h)) .nil))) .nil))) (by kernel_rfl)),
      StepOK.p rfl rfl rfl (OpOK.buildSlice (e := 56) (zr := [(pI 0), (pI 0)]) rfl (by kernel_rfl) (by kernel_rfl) (by kernel_rfl) (by kernel_rfl) rfl (by kernel_rfl) rfl),
      StepOK.p rfl rfl rfl (OpOK.appendOwn (e := 56) (bytes := 16) rfl rfl (by kernel_rfl) (by kernel_rfl) rfl (Nat.beq_refl _) rfl (by rw [List.map_append]; rfl) rfl (by simp only [List.length_map, List.length_cons, List.length_nil]; omega) (by simp only [List.length_map, List.length_cons, List.length_nil]; omega)),
      StepOK.p rfl rfl rfl (OpOK.fieldRef (fo := 2) rfl rfl (by kernel_rfl) rfl),
      StepOK.p rfl rfl rfl (OpOK.storeBox rfl rfl rfl rfl rfl (by kernel_rfl) (by kernel_rfl) rfl), rfl⟩
      [(0, (.ref 1 0)), (2, (.ref 1002 0)), (3, (.ref 1003 0)), (6, (vI ((n1 : Nat) : Int))), (7, (.ref 1007 0)), (8, (vI ((n2 : Nat) : Int))), (9, (.ref 1009 0)), (10, (vI ((n3 : Nat) : Int)))]
      [(1009, (.box [(vI (oneV L i3 ([0, 60, 300, 600, 900] : List Int))), (vB (decide (((nextN L (oneI L i3 ([0, 60, 300, 600, 900] : List Int)) 2 : Nat) : Int) = (0 : Int)))), (.own 2003 (((tt ++ [(target L i4 ts.length)]).map D.Target.cells).length))])), (2003, (.arr 2 ((tt ++ [(target L i4 ts.length)]).map D.Target.cells))), (1007, (.box [(vS (nth ([(ByteArray.mk #[112]), (ByteArray.mk #[113]), (ByteArray.mk #[114])] : List ByteArray) qs.length)), (.own 2002 ((ss.map D.PolicyStep.cells).length)), (vI (oneV L i2 ([0, 0, 1, 2] : List Int)))])), (2002, (.arr 3 (ss.map D.PolicyStep.cells))), (1003, (.box [(.p (.sl false 2 (ts.map D.Team.cells))), (.own 2001 ((qs.map D.Policy.cells).length))])), (2001, (.arr 3 (qs.map D.Policy.cells))), (1, (.box [(.p (.sl false 1 (L.map D.cInt))), (vI ((targetI L i4 ts.length : Nat) : Int))])), (1002, (.box [(.p (.sl true 0 [])), (.p (.sl true 0 []))]))]
      (by kernel_rfl) (by kernel_rfl) ?_
     refine blockQ_normal ?_
     refine nextQ_normal ?_
     refine AWp.region' hGn hGk 
      [(some 79, ⟨[(10, (vI ((n3 : Nat) : Int)))], [], (vI ((n3 : Nat) : Int)), [], []⟩),
      (some 80, ⟨[(79, (vI ((n3 : Nat) : Int)))], [], (vI ((n3 - 1 : Nat) : Int)), [], []⟩),
      (some 10, ⟨[(80, (vI ((n3 - 1 : Nat) : Int)))], [], (vI ((n3 - 1 : Nat) : Int)), [], []⟩)]
      ⟨StepOK.p rfl rfl rfl (OpOK.move rfl rfl),
      StepOK.p rfl rfl rfl (OpOK.sub rfl rfl rfl (by rw [IntWalk.i64_in _ ⟨by omega, by omega⟩]; omega)),
      StepOK.p rfl rfl rfl (OpOK.assign rfl rfl), rfl⟩
      [(0, (.ref 1 0)), (2, (.ref 1002 0)), (3, (.ref 1003 0)), (6, (vI ((n1 : Nat) : Int))), (7, (.ref 1007 0)), (8, (vI ((n2 : Nat) : Int))), (9, (.ref 1009 0)), (10, (vI ((n3 - 1 : Nat) : Int)))]
      [(1009, (.box [(vI (oneV L i3 ([0, 60, 300, 600, 900] : List Int))), (vB (decide (((nextN L (oneI L i3 ([0, 60, 300, 600, 900] : List Int)) 2 : Nat) : Int) = (0 : Int)))), (.own 2003 (((tt ++ [(target L i4 ts.length)]).map D.Target.cells).length))])), (2003, (.arr 2 ((tt ++ [(target L i4 ts.length)]).map D.Target.cells))), (1007, (.box [(vS (nth ([(ByteArray.mk #[112]), (ByteArray.mk #[113]), (ByteArray.mk #[114])] : List ByteArray) qs.length)), (.own 2002 ((ss.map D.PolicyStep.cells).length)), (vI (oneV L i2 ([0, 0, 1, 2] : List Int)))])), (2002, (.arr 3 (ss.map D.PolicyStep.cells))), (1003, (.box [(.p (.sl false 2 (ts.map D.Team.cells))), (.own 2001 ((qs.map D.Policy.cells).length))])), (2001, (.arr 3 (qs.map D.Policy.cells))), (1, (.box [(.p (.sl false 1 (L.map D.cInt))), (vI ((targetI L i4 ts.length : Nat) : Int))])), (1002, (.box [(.p (.sl true 0 [])), (.p (.sl true 0 []))]))]
      (by kernel_rfl) ?_
     refine nextQ_normal ⟨_, ?_, (n3 - 1), (tt ++ [(target L i4 ts.length)]), (targetI L i4 ts.length), rfl, (by simp only [List.length_append, List.length_cons, List.length_nil]; omega), (by repeat (first | assumption | exact Nat.zero_le _ | apply nextI_le | apply oneI_le | apply targetI_le | apply teamI_le | apply stepI_le | apply policyI_le)), (by rw [← heq4, targets_succ (n := n3) (by omega)]), rfl⟩
     · omega
    ·skip
     replace hc17 := of_decide_eq_false hc17
     refine AWp.weaken (mk [(0, (.ref 1 0)), (2, (.ref 1002 0)), (3, (.ref 1003 0)), (6, (vI ((n1 : Nat) : Int))), (7, (.ref 1007 0)), (8, (vI ((n2 : Nat) : Int))), (9, (.ref 1009 0))] [(1009, (.box [(vI (oneV L i3 ([0, 60, 300, 600, 900] : List Int))), (vB (decide (((nextN L (oneI L i3 ([0, 60, 300, 600, 900] : List Int)) 2 : Nat) : Int) = (0 : Int)))), (.own 2003 ((tt.map D.Target.cells).length))])), (2003, (.arr 2 (tt.map D.Target.cells))), (1007, (.box [(vS (nth ([(ByteArray.mk #[112]), (ByteArray.mk #[113]), (ByteArray.mk #[114])] : List ByteArray) qs.length)), (.own 2002 ((ss.map D.PolicyStep.cells).length)), (vI (oneV L i2 ([0, 0, 1, 2] : List Int)))])), (2002, (.arr 3 (ss.map D.PolicyStep.cells))), (1003, (.box [(.p (.sl false 2 (ts.map D.Team.cells))), (.own 2001 ((qs.map D.Policy.cells).length))])), (2001, (.arr 3 (qs.map D.Policy.cells))), (1, (.box [(.p (.sl false 1 (L.map D.cInt))), (vI ((i4 : Nat) : Int))])), (1002, (.box [(.p (.sl true 0 [])), (.p (.sl true 0 []))]))]) (Weak.sub' hGk (by kernel_rfl)) ?_
     refine AWp.exit ?_
     refine nextQ_exit ?_
     refine nextQ_exit ?_
     refine blockQ_exit ?_
     refine nextQ_normal ?_
     have heq6 : stepT L ts.length i3 = (tt, i4) := by rw [← heq4, show n3 = 0 from by omega]; rfl
     refine AWp.weaken (mk [(0, (.ref 1 0)), (2, (.ref 1002 0)), (3, (.ref 1003 0)), (6, (vI ((n1 : Nat) : Int))), (7, (.ref 1007 0)), (8, (vI ((n2 : Nat) : Int))), (9, (.ref 1009 0))] [(2003, (.arr 2 (tt.map D.Target.cells))), (1009, (.box [(vI (oneV L i3 ([0, 60, 300, 600, 900] : List Int))), (vB (decide (((nextN L (oneI L i3 ([0, 60, 300, 600, 900] : List Int)) 2 : Nat) : Int) = (0 : Int)))), (.own 2003 ((tt.map D.Target.cells).length))])), (1007, (.box [(vS (nth ([(ByteArray.mk #[112]), (ByteArray.mk #[113]), (ByteArray.mk #[114])] : List ByteArray) qs.length)), (.own 2002 ((ss.map D.PolicyStep.cells).length)), (vI (oneV L i2 ([0, 0, 1, 2] : List Int)))])), (2002, (.arr 3 (ss.map D.PolicyStep.cells))), (1003, (.box [(.p (.sl false 2 (ts.map D.Team.cells))), (.own 2001 ((qs.map D.Policy.cells).length))])), (2001, (.arr 3 (qs.map D.Policy.cells))), (1, (.box [(.p (.sl false 1 (L.map D.cInt))), (vI ((i4 : Nat) : Int))])), (1002, (.box [(.p (.sl true 0 [])), (.p (.sl true 0 []))]))]) (Weak.sub' hGk (by kernel_rfl)) ?_
     refine AWp.weaken (mk [(0, (.ref 1 0)), (2, (.ref 1002 0)), (3, (.ref 1003 0)), (6, (vI ((n1 : Nat) : Int))), (7, (.ref 1007 0)), (8, (vI ((n2 : Nat) : Int))), (9, (.ref 1009 0))] [(1009, (.box [(vI (oneV L i3 ([0, 60, 300, 600, 900] : List Int))), (vB (decide (((nextN L (oneI L i3 ([0, 60, 300, 600, 900] : List Int)) 2 : Nat) : Int) = (0 : Int)))), (.p (.sl false 2 (tt.map D.Target.cells)))])), (1007, (.box [(vS (nth ([(ByteArray.mk #[112]), (ByteArray.mk #[113]), (ByteArray.mk #[114])] : List ByteArray) qs.length)), (.own 2002 ((ss.map D.PolicyStep.cells).length)), (vI (oneV L i2 ([0, 0, 1, 2] : List Int)))])), (2002, (.arr 3 (ss.map D.PolicyStep.cells))), (1003, (.box [(.p (.sl false 2 (ts.map D.Team.cells))), (.own 2001 ((qs.map D.Policy.cells).length))])), (2001, (.arr 3 (qs.map D.Policy.cells))), (1, (.box [(.p (.sl false 1 (L.map D.cInt))), (vI ((i4 : Nat) : Int))])), (1002, (.box [(.p (.sl true 0 [])), (.p (.sl true 0 []))]))]) (Weak.freeze (n := 2003) (es := 2) (rows := (tt.map D.Target.cells)) (by rw [hGk]; decide) ⟨rfl, (.same rfl), ⟨rfl, (.same rfl), ⟨rfl, (.same rfl), ⟨rfl, (.same rfl), ⟨rfl, (.same rfl), ⟨rfl, (.same rfl), ⟨rfl, (.same rfl), trivial⟩⟩⟩⟩⟩⟩⟩ ⟨rfl, by decide, (.box (.cons (.same rfl) (.cons (.same rfl) (.cons .own .nil)))), ⟨rfl, by decide, (.same rfl), ⟨rfl, by decide, (.same rfl), ⟨rfl, by decide, (.same rfl), ⟨rfl, by decide, (.same rfl), ⟨rfl, by decide, (.same rfl), ⟨rfl, by decide, (.same rfl), trivial⟩⟩⟩⟩⟩⟩⟩) ?_
     refine AWp.region' hGn hGk 
      [(some 89, ⟨[(7, (.ref 1007 0))], [(1007, (.box [(vS (nth ([(ByteArray.mk #[112]), (ByteArray.mk #[113]), (ByteArray.mk #[114])] : List ByteArray) qs.length)), (.own 2002 ((ss.map D.PolicyStep.cells).length)), (vI (oneV L i2 ([0, 0, 1, 2] : List Int)))]))], (.ref 1007 1), [], []⟩),
      (some 90, ⟨[(89, (.ref 1007 1))], [(1007, (.box [(vS (nth ([(ByteArray.mk #[112]), (ByteArray.mk #[113]), (ByteArray.mk #[114])] : List ByteArray) qs.length)), (.own 2002 ((ss.map D.PolicyStep.cells).length)), (vI (oneV L i2 ([0, 0, 1, 2] : List Int)))]))], (.own 2002 ((ss.map D.PolicyStep.cells).length)), [], []⟩),
      (some 91, ⟨[(9, (.ref 1009 0))], [(1009, (.box [(vI (oneV L i3 ([0, 60, 300, 600, 900] : List Int))), (vB (decide (((nextN L (oneI L i3 ([0, 60, 300, 600, 900] : List Int)) 2 : Nat) : Int) = (0 : Int)))), (.p (.sl false 2 (tt.map D.Target.cells)))]))], (.agg [(vI (oneV L i3 ([0, 60, 300, 600, 900] : List Int))), (vB (decide (((nextN L (oneI L i3 ([0, 60, 300, 600, 900] : List Int)) 2 : Nat) : Int) = (0 : Int)))), (.p (.sl false 2 (tt.map D.Target.cells)))]), [], []⟩),
      (some 92, ⟨[(91, (.agg [(vI (oneV L i3 ([0, 60, 300, 600, 900] : List Int))), (vB (decide (((nextN L (oneI L i3 ([0, 60, 300, 600, 900] : List Int)) 2 : Nat) : Int) = (0 : Int)))), (.p (.sl false 2 (tt.map D.Target.cells)))]))], [], (.p (.sl true 3 [[(pI (oneV L i3 ([0, 60, 300, 600, 900] : List Int))), (pB (decide (((nextN L (oneI L i3 ([0, 60, 300, 600, 900] : List Int)) 2 : Nat) : Int) = (0 : Int)))), (.sl false 2 (tt.map D.Target.cells))]])), [], []⟩),
      (some 93, ⟨[(90, (.own 2002 ((ss.map D.PolicyStep.cells).length))), (92, (.p (.sl true 3 [[(pI (oneV L i3 ([0, 60, 300, 600, 900] : List Int))), (pB (decide (((nextN L (oneI L i3 ([0, 60, 300, 600, 900] : List Int)) 2 : Nat) : Int) = (0 : Int)))), (.sl false 2 (tt.map D.Target.cells))]])))], [(2002, (.arr 3 (ss.map D.PolicyStep.cells)))], (.own 2002 (((ss ++ [(⟨oneV L i3 ([0, 60, 300, 600, 900] : List Int), decide (((nextN L (oneI L i3 ([0, 60, 300, 600, 900] : List Int)) 2 : Nat) : Int) = (0 : Int)), tt⟩ : D.PolicyStep)]).map D.PolicyStep.cells).length)), [(2002, (.arr 3 ((ss ++ [(⟨oneV L i3 ([0, 60, 300, 600, 900] : List Int), decide (((nextN L (oneI L i3 ([0, 60, 300, 600, 900] : List Int)) 2 : Nat) : Int) = (0 : Int)), tt⟩ : D.PolicyStep)]).map D.PolicyStep.cells)))], []⟩),
      (some 94, ⟨[(7, (.ref 1007 0))], [(1007, (.box [(vS (nth ([(ByteArray.mk #[112]), (ByteArray.mk #[113]), (ByteArray.mk #[114])] : List ByteArray) qs.length)), (.own 2002 ((ss.map D.PolicyStep.cells).length)), (vI (oneV L i2 ([0, 0, 1, 2] : List Int)))]))], (.ref 1007 1), [], []⟩),
      (none, ⟨[(94, (.ref 1007 1)), (93, (.own 2002 (((ss ++ [(⟨oneV L i3 ([0, 60, 300, 600, 900] : List Int), decide (((nextN L (oneI L i3 ([0, 60, 300, 600, 900] : List Int)) 2 : Nat) : Int) = (0 : Int)), tt⟩ : D.PolicyStep)]).map D.PolicyStep.cells).length)))], [(1007, (.box [(vS (nth ([(ByteArray.mk #[112]), (ByteArray.mk #[113]), (ByteArray.mk #[114])] : List ByteArray) qs.length)), (.own 2002 ((ss.map D.PolicyStep.cells).length)), (vI (oneV L i2 ([0, 0, 1, 2] : List Int)))]))], .any, [(1007, (.box [(vS (nth ([(ByteArray.mk #[112]), (ByteArray.mk #[113]), (ByteArray.mk #[114])] : List ByteArray) qs.length)), (.own 2002 (((ss ++ [(⟨oneV L i3 ([0, 60, 300, 600, 900] : List Int), decide (((nextN L (oneI L i3 ([0, 60, 300, 600, 900] : List Int)) 2 : Nat) : Int) = (0 : Int)), tt⟩ : D.PolicyStep)]).map D.PolicyStep.cells).length)), (vI (oneV L i2 ([0, 0, 1, 2] : List Int)))]))], []⟩)]
      ⟨StepOK.p rfl rfl rfl (OpOK.fieldRef (fo := 1) rfl rfl (by kernel_rfl) rfl),
      StepOK.p rfl rfl rfl (OpOK.loadBox rfl rfl (by kernel_rfl) rfl),
      StepOK.p rfl rfl rfl (OpOK.loadBoxAgg (z := 3) rfl rfl (by kernel_rfl) (by kernel_rfl) rfl rfl),
      StepOK.p rfl rfl rfl (OpOK.buildSlice (e := 44) (zr := [(pI 0), (pB false), (.sl true 0 [])]) rfl (by kernel_rfl) (by kernel_rfl) (by kernel_rfl) (by kernel_rfl) rfl (by kernel_rfl) rfl),
      StepOK.p rfl rfl rfl (OpOK.appendOwn (e := 44) (bytes := 40) rfl rfl (by kernel_rfl) (by kernel_rfl) rfl (Nat.beq_refl _) rfl (by rw [List.map_append]; rfl) rfl (by simp only [List.length_map, List.length_cons, List.length_nil]; omega) (by simp only [List.length_map, List.length_cons, List.length_nil]; omega)),
      StepOK.p rfl rfl rfl (OpOK.fieldRef (fo := 1) rfl rfl (by kernel_rfl) rfl),
      StepOK.p rfl rfl rfl (OpOK.storeBox rfl rfl rfl rfl rfl (by kernel_rfl) (by kernel_rfl) rfl), rfl⟩
      [(0, (.ref 1 0)), (2, (.ref 1002 0)), (3, (.ref 1003 0)), (6, (vI ((n1 : Nat) : Int))), (7, (.ref 1007 0)), (8, (vI ((n2 : Nat) : Int)))]
      [(1007, (.box [(vS (nth ([(ByteArray.mk #[112]), (ByteArray.mk #[113]), (ByteArray.mk #[114])] : List ByteArray) qs.length)), (.own 2002 (((ss ++ [(⟨oneV L i3 ([0, 60, 300, 600, 900] : List Int), decide (((nextN L (oneI L i3 ([0, 60, 300, 600, 900] : List Int)) 2 : Nat) : Int) = (0 : Int)), tt⟩ : D.PolicyStep)]).map D.PolicyStep.cells).length)), (vI (oneV L i2 ([0, 0, 1, 2] : List Int)))])), (2002, (.arr 3 ((ss ++ [(⟨oneV L i3 ([0, 60, 300, 600, 900] : List Int), decide (((nextN L (oneI L i3 ([0, 60, 300, 600, 900] : List Int)) 2 : Nat) : Int) = (0 : Int)), tt⟩ : D.PolicyStep)]).map D.PolicyStep.cells))), (1003, (.box [(.p (.sl false 2 (ts.map D.Team.cells))), (.own 2001 ((qs.map D.Policy.cells).length))])), (2001, (.arr 3 (qs.map D.Policy.cells))), (1, (.box [(.p (.sl false 1 (L.map D.cInt))), (vI ((i4 : Nat) : Int))])), (1002, (.box [(.p (.sl true 0 [])), (.p (.sl true 0 []))]))]
      (by kernel_rfl) ?_
     refine blockQ_normal ?_
     refine nextQ_normal ?_
     refine AWp.region' hGn hGk 
      [(some 66, ⟨[(8, (vI ((n2 : Nat) : Int)))], [], (vI ((n2 : Nat) : Int)), [], []⟩),
      (some 67, ⟨[(66, (vI ((n2 : Nat) : Int)))], [], (vI ((n2 - 1 : Nat) : Int)), [], []⟩),
      (some 8, ⟨[(67, (vI ((n2 - 1 : Nat) : Int)))], [], (vI ((n2 - 1 : Nat) : Int)), [], []⟩)]
      ⟨StepOK.p rfl rfl rfl (OpOK.move rfl rfl),
      StepOK.p rfl rfl rfl (OpOK.sub rfl rfl rfl (by rw [IntWalk.i64_in _ ⟨by omega, by omega⟩]; omega)),
      StepOK.p rfl rfl rfl (OpOK.assign rfl rfl), rfl⟩
      [(0, (.ref 1 0)), (2, (.ref 1002 0)), (3, (.ref 1003 0)), (6, (vI ((n1 : Nat) : Int))), (7, (.ref 1007 0)), (8, (vI ((n2 - 1 : Nat) : Int)))]
      [(1007, (.box [(vS (nth ([(ByteArray.mk #[112]), (ByteArray.mk #[113]), (ByteArray.mk #[114])] : List ByteArray) qs.length)), (.own 2002 (((ss ++ [(⟨oneV L i3 ([0, 60, 300, 600, 900] : List Int), decide (((nextN L (oneI L i3 ([0, 60, 300, 600, 900] : List Int)) 2 : Nat) : Int) = (0 : Int)), tt⟩ : D.PolicyStep)]).map D.PolicyStep.cells).length)), (vI (oneV L i2 ([0, 0, 1, 2] : List Int)))])), (2002, (.arr 3 ((ss ++ [(⟨oneV L i3 ([0, 60, 300, 600, 900] : List Int), decide (((nextN L (oneI L i3 ([0, 60, 300, 600, 900] : List Int)) 2 : Nat) : Int) = (0 : Int)), tt⟩ : D.PolicyStep)]).map D.PolicyStep.cells))), (1003, (.box [(.p (.sl false 2 (ts.map D.Team.cells))), (.own 2001 ((qs.map D.Policy.cells).length))])), (2001, (.arr 3 (qs.map D.Policy.cells))), (1, (.box [(.p (.sl false 1 (L.map D.cInt))), (vI ((i4 : Nat) : Int))])), (1002, (.box [(.p (.sl true 0 [])), (.p (.sl true 0 []))]))]
      (by kernel_rfl) ?_
     refine nextQ_normal ⟨_, ?_, (n2 - 1), (ss ++ [(⟨oneV L i3 ([0, 60, 300, 600, 900] : List Int), decide (((nextN L (oneI L i3 ([0, 60, 300, 600, 900] : List Int)) 2 : Nat) : Int) = (0 : Int)), tt⟩ : D.PolicyStep)]), i4, rfl, (by simp only [List.length_append, List.length_cons, List.length_nil]; omega), hi4, (by rw [← heq3, steps_succ (n := n2) (by omega)]; simp only [stepP, stepI, heq6]), rfl⟩
     · omega
   ·skip
    replace hc13 := of_decide_eq_false hc13
    refine AWp.weaken (mk [(0, (.ref 1 0)), (2, (.ref 1002 0)), (3, (.ref 1003 0)), (6, (vI ((n1 : Nat) : Int))), (7, (.ref 1007 0))] [(1007, (.box [(vS (nth ([(ByteArray.mk #[112]), (ByteArray.mk #[113]), (ByteArray.mk #[114])] : List ByteArray) qs.length)), (.own 2002 ((ss.map D.PolicyStep.cells).length)), (vI (oneV L i2 ([0, 0, 1, 2] : List Int)))])), (2002, (.arr 3 (ss.map D.PolicyStep.cells))), (1003, (.box [(.p (.sl false 2 (ts.map D.Team.cells))), (.own 2001 ((qs.map D.Policy.cells).length))])), (2001, (.arr 3 (qs.map D.Policy.cells))), (1, (.box [(.p (.sl false 1 (L.map D.cInt))), (vI ((i3 : Nat) : Int))])), (1002, (.box [(.p (.sl true 0 [])), (.p (.sl true 0 []))]))]) (Weak.sub' hGk (by kernel_rfl)) ?_
    refine AWp.exit ?_
    refine nextQ_exit ?_
    refine nextQ_exit ?_
    refine blockQ_exit ?_
    refine nextQ_normal ?_
    have heq5 : policyS L ts.length i2 = (ss, i3) := by rw [← heq3, show n2 = 0 from by omega]; rfl
    refine AWp.weaken (mk [(0, (.ref 1 0)), (2, (.ref 1002 0)), (3, (.ref 1003 0)), (6, (vI ((n1 : Nat) : Int))), (7, (.ref 1007 0))] [(2002, (.arr 3 (ss.map D.PolicyStep.cells))), (1007, (.box [(vS (nth ([(ByteArray.mk #[112]), (ByteArray.mk #[113]), (ByteArray.mk #[114])] : List ByteArray) qs.length)), (.own 2002 ((ss.map D.PolicyStep.cells).length)), (vI (oneV L i2 ([0, 0, 1, 2] : List Int)))])), (1003, (.box [(.p (.sl false 2 (ts.map D.Team.cells))), (.own 2001 ((qs.map D.Policy.cells).length))])), (2001, (.arr 3 (qs.map D.Policy.cells))), (1, (.box [(.p (.sl false 1 (L.map D.cInt))), (vI ((i3 : Nat) : Int))])), (1002, (.box [(.p (.sl true 0 [])), (.p (.sl true 0 []))]))]) (Weak.sub' hGk (by kernel_rfl)) ?_
    refine AWp.weaken (mk [(0, (.ref 1 0)), (2, (.ref 1002 0)), (3, (.ref 1003 0)), (6, (vI ((n1 : Nat) : Int))), (7, (.ref 1007 0))] [(1007, (.box [(vS (nth ([(ByteArray.mk #[112]), (ByteArray.mk #[113]), (ByteArray.mk #[114])] : List ByteArray) qs.length)), (.p (.sl false 3 (ss.map D.PolicyStep.cells))), (vI (oneV L i2 ([0, 0, 1, 2] : List Int)))])), (1003, (.box [(.p (.sl false 2 (ts.map D.Team.cells))), (.own 2001 ((qs.map D.Policy.cells).length))])), (2001, (.arr 3 (qs.map D.Policy.cells))), (1, (.box [(.p (.sl false 1 (L.map D.cInt))), (vI ((i3 : Nat) : Int))])), (1002, (.box [(.p (.sl true 0 [])), (.p (.sl true 0 []))]))]) (Weak.freeze (n := 2002) (es := 3) (rows := (ss.map D.PolicyStep.cells)) (by rw [hGk]; decide) ⟨rfl, (.same rfl), ⟨rfl, (.same rfl), ⟨rfl, (.same rfl), ⟨rfl, (.same rfl), ⟨rfl, (.same rfl), trivial⟩⟩⟩⟩⟩ ⟨rfl, by decide, (.box (.cons (.same rfl) (.cons .own (.cons (.same rfl) .nil)))), ⟨rfl, by decide, (.same rfl), ⟨rfl, by decide, (.same rfl), ⟨rfl, by decide, (.same rfl), ⟨rfl, by decide, (.same rfl), trivial⟩⟩⟩⟩⟩) ?_
    refine AWp.region' hGn hGk 
     [(some 95, ⟨[(3, (.ref 1003 0))], [(1003, (.box [(.p (.sl false 2 (ts.map D.Team.cells))), (.own 2001 ((qs.map D.Policy.cells).length))]))], (.ref 1003 1), [], []⟩),
     (some 96, ⟨[(95, (.ref 1003 1))], [(1003, (.box [(.p (.sl false 2 (ts.map D.Team.cells))), (.own 2001 ((qs.map D.Policy.cells).length))]))], (.own 2001 ((qs.map D.Policy.cells).length)), [], []⟩),
     (some 97, ⟨[(7, (.ref 1007 0))], [(1007, (.box [(vS (nth ([(ByteArray.mk #[112]), (ByteArray.mk #[113]), (ByteArray.mk #[114])] : List ByteArray) qs.length)), (.p (.sl false 3 (ss.map D.PolicyStep.cells))), (vI (oneV L i2 ([0, 0, 1, 2] : List Int)))]))], (.agg [(vS (nth ([(ByteArray.mk #[112]), (ByteArray.mk #[113]), (ByteArray.mk #[114])] : List ByteArray) qs.length)), (.p (.sl false 3 (ss.map D.PolicyStep.cells))), (vI (oneV L i2 ([0, 0, 1, 2] : List Int)))]), [], []⟩),
     (some 98, ⟨[(97, (.agg [(vS (nth ([(ByteArray.mk #[112]), (ByteArray.mk #[113]), (ByteArray.mk #[114])] : List ByteArray) qs.length)), (.p (.sl false 3 (ss.map D.PolicyStep.cells))), (vI (oneV L i2 ([0, 0, 1, 2] : List Int)))]))], [], (.p (.sl true 3 [[(pS (nth ([(ByteArray.mk #[112]), (ByteArray.mk #[113]), (ByteArray.mk #[114])] : List ByteArray) qs.length)), (.sl false 3 (ss.map D.PolicyStep.cells)), (pI (oneV L i2 ([0, 0, 1, 2] : List Int)))]])), [], []⟩),
     (some 99, ⟨[(96, (.own 2001 ((qs.map D.Policy.cells).length))), (98, (.p (.sl true 3 [[(pS (nth ([(ByteArray.mk #[112]), (ByteArray.mk #[113]), (ByteArray.mk #[114])] : List ByteArray) qs.length)), (.sl false 3 (ss.map D.PolicyStep.cells)), (pI (oneV L i2 ([0, 0, 1, 2] : List Int)))]])))], [(2001, (.arr 3 (qs.map D.Policy.cells)))], (.own 2001 (((qs ++ [(⟨nth ([(ByteArray.mk #[112]), (ByteArray.mk #[113]), (ByteArray.mk #[114])] : List ByteArray) qs.length, ss, oneV L i2 ([0, 0, 1, 2] : List Int)⟩ : D.Policy)]).map D.Policy.cells).length)), [(2001, (.arr 3 ((qs ++ [(⟨nth ([(ByteArray.mk #[112]), (ByteArray.mk #[113]), (ByteArray.mk #[114])] : List ByteArray) qs.length, ss, oneV L i2 ([0, 0, 1, 2] : List Int)⟩ : D.Policy)]).map D.Policy.cells)))], []⟩),
     (some 100, ⟨[(3, (.ref 1003 0))], [(1003, (.box [(.p (.sl false 2 (ts.map D.Team.cells))), (.own 2001 ((qs.map D.Policy.cells).length))]))], (.ref 1003 1), [], []⟩),
     (none, ⟨[(100, (.ref 1003 1)), (99, (.own 2001 (((qs ++ [(⟨nth ([(ByteArray.mk #[112]), (ByteArray.mk #[113]), (ByteArray.mk #[114])] : List ByteArray) qs.length, ss, oneV L i2 ([0, 0, 1, 2] : List Int)⟩ : D.Policy)]).map D.Policy.cells).length)))], [(1003, (.box [(.p (.sl false 2 (ts.map D.Team.cells))), (.own 2001 ((qs.map D.Policy.cells).length))]))], .any, [(1003, (.box [(.p (.sl false 2 (ts.map D.Team.cells))), (.own 2001 (((qs ++ [(⟨nth ([(ByteArray.mk #[112]), (ByteArray.mk #[113]), (ByteArray.mk #[114])] : List ByteArray) qs.length, ss, oneV L i2 ([0, 0, 1, 2] : List Int)⟩ : D.Policy)]).map D.Policy.cells).length))]))], []⟩)]
     ⟨StepOK.p rfl rfl rfl (OpOK.fieldRef (fo := 1) rfl rfl (by kernel_rfl) rfl),
     StepOK.p rfl rfl rfl (OpOK.loadBox rfl rfl (by kernel_rfl) rfl),
     StepOK.p rfl rfl rfl (OpOK.loadBoxAgg (z := 3) rfl rfl (by kernel_rfl) (by kernel_rfl) rfl rfl),
     StepOK.p rfl rfl rfl (OpOK.buildSlice (e := 35) (zr := [(pS (ByteArray.mk #[])), (.sl true 0 []), (pI 0)]) rfl (by kernel_rfl) (by kernel_rfl) (by kernel_rfl) (by kernel_rfl) rfl (by kernel_rfl) rfl),
     StepOK.p rfl rfl rfl (OpOK.appendOwn (e := 35) (bytes := 48) rfl rfl (by kernel_rfl) (by kernel_rfl) rfl (Nat.beq_refl _) rfl (by rw [List.map_append]; rfl) rfl (by simp only [List.length_map, List.length_cons, List.length_nil]; omega) (by simp only [List.length_map, List.length_cons, List.length_nil]; omega)),
     StepOK.p rfl rfl rfl (OpOK.fieldRef (fo := 1) rfl rfl (by kernel_rfl) rfl),
     StepOK.p rfl rfl rfl (OpOK.storeBox rfl rfl rfl rfl rfl (by kernel_rfl) (by kernel_rfl) rfl), rfl⟩
     [(0, (.ref 1 0)), (2, (.ref 1002 0)), (3, (.ref 1003 0)), (6, (vI ((n1 : Nat) : Int)))]
     [(1003, (.box [(.p (.sl false 2 (ts.map D.Team.cells))), (.own 2001 (((qs ++ [(⟨nth ([(ByteArray.mk #[112]), (ByteArray.mk #[113]), (ByteArray.mk #[114])] : List ByteArray) qs.length, ss, oneV L i2 ([0, 0, 1, 2] : List Int)⟩ : D.Policy)]).map D.Policy.cells).length))])), (2001, (.arr 3 ((qs ++ [(⟨nth ([(ByteArray.mk #[112]), (ByteArray.mk #[113]), (ByteArray.mk #[114])] : List ByteArray) qs.length, ss, oneV L i2 ([0, 0, 1, 2] : List Int)⟩ : D.Policy)]).map D.Policy.cells))), (1, (.box [(.p (.sl false 1 (L.map D.cInt))), (vI ((i3 : Nat) : Int))])), (1002, (.box [(.p (.sl true 0 [])), (.p (.sl true 0 []))]))]
     (by kernel_rfl) ?_
    refine blockQ_normal ?_
    refine nextQ_normal ?_
    refine AWp.region' hGn hGk 
     [(some 49, ⟨[(6, (vI ((n1 : Nat) : Int)))], [], (vI ((n1 : Nat) : Int)), [], []⟩),
     (some 50, ⟨[(49, (vI ((n1 : Nat) : Int)))], [], (vI ((n1 - 1 : Nat) : Int)), [], []⟩),
     (some 6, ⟨[(50, (vI ((n1 - 1 : Nat) : Int)))], [], (vI ((n1 - 1 : Nat) : Int)), [], []⟩)]
     ⟨StepOK.p rfl rfl rfl (OpOK.move rfl rfl),
     StepOK.p rfl rfl rfl (OpOK.sub rfl rfl rfl (by rw [IntWalk.i64_in _ ⟨by omega, by omega⟩]; omega)),
     StepOK.p rfl rfl rfl (OpOK.assign rfl rfl), rfl⟩
     [(0, (.ref 1 0)), (2, (.ref 1002 0)), (3, (.ref 1003 0)), (6, (vI ((n1 - 1 : Nat) : Int)))]
     [(1003, (.box [(.p (.sl false 2 (ts.map D.Team.cells))), (.own 2001 (((qs ++ [(⟨nth ([(ByteArray.mk #[112]), (ByteArray.mk #[113]), (ByteArray.mk #[114])] : List ByteArray) qs.length, ss, oneV L i2 ([0, 0, 1, 2] : List Int)⟩ : D.Policy)]).map D.Policy.cells).length))])), (2001, (.arr 3 ((qs ++ [(⟨nth ([(ByteArray.mk #[112]), (ByteArray.mk #[113]), (ByteArray.mk #[114])] : List ByteArray) qs.length, ss, oneV L i2 ([0, 0, 1, 2] : List Int)⟩ : D.Policy)]).map D.Policy.cells))), (1, (.box [(.p (.sl false 1 (L.map D.cInt))), (vI ((i3 : Nat) : Int))])), (1002, (.box [(.p (.sl true 0 [])), (.p (.sl true 0 []))]))]
     (by kernel_rfl) ?_
    refine nextQ_normal ⟨_, ?_, (n1 - 1), (qs ++ [(⟨nth ([(ByteArray.mk #[112]), (ByteArray.mk #[113]), (ByteArray.mk #[114])] : List ByteArray) qs.length, ss, oneV L i2 ([0, 0, 1, 2] : List Int)⟩ : D.Policy)]), i3, rfl, (by simp only [List.length_append, List.length_cons, List.length_nil]; omega), hi3, (by rw [← heq2, policies_succ (n := n1) (by omega)]; simp only [policyP, policyI, heq5]), rfl⟩
    · omega
  ·skip
   replace hc10 := of_decide_eq_false hc10
   refine AWp.weaken (mk [(2, (.ref 1002 0)), (3, (.ref 1003 0))] [(1003, (.box [(.p (.sl false 2 (ts.map D.Team.cells))), (.own 2001 ((qs.map D.Policy.cells).length))])), (2001, (.arr 3 (qs.map D.Policy.cells))), (1, (.box [(.p (.sl false 1 (L.map D.cInt))), (vI ((i2 : Nat) : Int))])), (1002, (.box [(.p (.sl true 0 [])), (.p (.sl true 0 []))]))]) (Weak.sub' hGk (by kernel_rfl)) ?_
   refine AWp.exit ?_
   refine nextQ_exit ?_
   refine nextQ_exit ?_
   refine blockQ_exit ?_
   refine nextQ_normal ?_
   have heq7 : bookP L i = (qs, i2) := by rw [← heq2, show n1 = 0 from by omega]; rfl
   refine AWp.weaken (mk [(2, (.ref 1002 0)), (3, (.ref 1003 0))] [(2001, (.arr 3 (qs.map D.Policy.cells))), (1003, (.box [(.p (.sl false 2 (ts.map D.Team.cells))), (.own 2001 ((qs.map D.Policy.cells).length))])), (1, (.box [(.p (.sl false 1 (L.map D.cInt))), (vI ((i2 : Nat) : Int))])), (1002, (.box [(.p (.sl true 0 [])), (.p (.sl true 0 []))]))]) (Weak.sub' hGk (by kernel_rfl)) ?_
   refine AWp.weaken (mk [(2, (.ref 1002 0)), (3, (.ref 1003 0))] [(1003, (.box [(.p (.sl false 2 (ts.map D.Team.cells))), (.p (.sl false 3 (qs.map D.Policy.cells)))])), (1, (.box [(.p (.sl false 1 (L.map D.cInt))), (vI ((i2 : Nat) : Int))])), (1002, (.box [(.p (.sl true 0 [])), (.p (.sl true 0 []))]))]) (Weak.freeze (n := 2001) (es := 3) (rows := (qs.map D.Policy.cells)) (by rw [hGk]; decide) ⟨rfl, (.same rfl), ⟨rfl, (.same rfl), trivial⟩⟩ ⟨rfl, by decide, (.box (.cons (.same rfl) (.cons .own .nil))), ⟨rfl, by decide, (.same rfl), ⟨rfl, by decide, (.same rfl), trivial⟩⟩⟩) ?_
   refine AWp.s_region hGn hGk 
    [(some 101, ⟨[(3, (.ref 1003 0))], [(1003, (.box [(.p (.sl false 2 (ts.map D.Team.cells))), (.p (.sl false 3 (qs.map D.Policy.cells)))]))], (.agg [(.p (.sl false 2 (ts.map D.Team.cells))), (.p (.sl false 3 (qs.map D.Policy.cells)))]), [], []⟩),
    (none, ⟨[(2, (.ref 1002 0)), (101, (.agg [(.p (.sl false 2 (ts.map D.Team.cells))), (.p (.sl false 3 (qs.map D.Policy.cells)))]))], [(1002, (.box [(.p (.sl true 0 [])), (.p (.sl true 0 []))]))], .any, [(1002, (.box [(.p (.sl false 2 (ts.map D.Team.cells))), (.p (.sl false 3 (qs.map D.Policy.cells)))]))], []⟩)]
    ⟨StepOK.p rfl rfl rfl (OpOK.loadBoxAgg (z := 2) rfl rfl (by kernel_rfl) (by kernel_rfl) rfl rfl),
    StepOK.p rfl rfl rfl (OpOK.storeBox rfl rfl rfl rfl rfl (by kernel_rfl) (by kernel_rfl) rfl), rfl⟩
    [(2, (.ref 1002 0))]
    [(1, (.box [(.p (.sl false 1 (L.map D.cInt))), (vI ((i2 : Nat) : Int))])), (1002, (.box [(.p (.sl false 2 (ts.map D.Team.cells))), (.p (.sl false 3 (qs.map D.Policy.cells)))]))]
    (by kernel_rfl) ?_
   refine AWp.ret ?_
   refine fin_of (.inr rfl) (v := (.agg [(.p (.sl false 2 (ts.map D.Team.cells))), (.p (.sl false 3 (qs.map D.Policy.cells)))])) (Res.agg rfl rfl rfl (by kernel_rfl) (by kernel_rfl)) (h' := [(1, (.box [(.p (.sl false 1 (L.map D.cInt))), (vI ((i2 : Nat) : Int))]))]) rfl rfl ?_
   exact ⟨by simp only [book, heq1, heq7], by simp only [bookI, heq7]⟩

theorem sane_0 : ((offset (⟨(ByteArray.mk #[112]), ([(⟨(300 : Int), false, ([] : List D.Target)⟩ : D.PolicyStep), (⟨(600 : Int), false, ([] : List D.Target)⟩ : D.PolicyStep)] : List D.PolicyStep), (1 : Int)⟩ : D.Policy) 3).2) = true := by decide
theorem sane_1 : (decide (((offset (⟨(ByteArray.mk #[112]), ([(⟨(300 : Int), false, ([] : List D.Target)⟩ : D.PolicyStep), (⟨(600 : Int), false, ([] : List D.Target)⟩ : D.PolicyStep)] : List D.PolicyStep), (1 : Int)⟩ : D.Policy) 3).1) = (1200 : Int))) = true := by decide
theorem sane_2 : (decide (((offset (⟨(ByteArray.mk #[112]), ([(⟨(300 : Int), false, ([] : List D.Target)⟩ : D.PolicyStep), (⟨(600 : Int), false, ([] : List D.Target)⟩ : D.PolicyStep)] : List D.PolicyStep), (1 : Int)⟩ : D.Policy) (count (⟨(ByteArray.mk #[112]), ([(⟨(300 : Int), false, ([] : List D.Target)⟩ : D.PolicyStep), (⟨(600 : Int), false, ([] : List D.Target)⟩ : D.PolicyStep)] : List D.PolicyStep), (1 : Int)⟩ : D.Policy))).1) = (1800 : Int))) = true := by decide
theorem sane_3 : (decide (((started (⟨(ByteArray.mk #[112]), ([(⟨(300 : Int), false, ([] : List D.Target)⟩ : D.PolicyStep), (⟨(600 : Int), false, ([] : List D.Target)⟩ : D.PolicyStep)] : List D.PolicyStep), (1 : Int)⟩ : D.Policy) 300 : Nat) : Int) = (2 : Int))) = true := by decide
theorem sane_4 : (decide ((count (⟨(ByteArray.mk #[112]), ([(⟨(300 : Int), false, ([] : List D.Target)⟩ : D.PolicyStep), (⟨(600 : Int), false, ([] : List D.Target)⟩ : D.PolicyStep)] : List D.PolicyStep), (1 : Int)⟩ : D.Policy)) = (4 : Int))) = true := by decide

theorem law_sane  :
    SpecIs Try.prog 7 [] [] (vB true) [] := by
 refine Spec.intro Try.func7 rfl (by kernel_rfl) ?_
 intro Γ hGn hGk
 replace hGn : Γ.n = 33 := hGn
 replace hGk : Γ.names = [] := hGk
 refine AWp.weaken (mk [] []) (Weak.sub' hGk (by kernel_rfl)) ?_
 refine AWp.s_region hGn hGk 
  [(some 0, ⟨[], [], (vB false), [], []⟩)]
  ⟨StepOK.p rfl rfl rfl (OpOK.assign rfl rfl), rfl⟩
  []
  []
  (by kernel_rfl) ?_
 refine AWp.s_region hGn hGk 
  [(some 4, ⟨[], [], (.agg [(vI 300), (vB false), (.p (.sl true 0 []))]), [], []⟩),
  (some 5, ⟨[], [], (.agg [(vI 600), (vB false), (.p (.sl true 0 []))]), [], []⟩),
  (some 6, ⟨[(4, (.agg [(vI 300), (vB false), (.p (.sl true 0 []))])), (5, (.agg [(vI 600), (vB false), (.p (.sl true 0 []))]))], [], (.p (.sl true 3 [[(pI 300), (pB false), (.sl true 0 [])], [(pI 600), (pB false), (.sl true 0 [])]])), [], []⟩),
  (some 7, ⟨[(6, (.p (.sl true 3 [[(pI 300), (pB false), (.sl true 0 [])], [(pI 600), (pB false), (.sl true 0 [])]])))], [], (.agg [(vS (ByteArray.mk #[112])), (.p (.sl true 3 [[(pI 300), (pB false), (.sl true 0 [])], [(pI 600), (pB false), (.sl true 0 [])]])), (vI 1)]), [], []⟩),
  (some 1, ⟨[], [], (.ref 1001 0), [(1001, (.box [(vS (ByteArray.mk #[])), (.p (.sl true 0 [])), (vI 0)]))], [1001]⟩),
  (none, ⟨[(1, (.ref 1001 0)), (7, (.agg [(vS (ByteArray.mk #[112])), (.p (.sl true 3 [[(pI 300), (pB false), (.sl true 0 [])], [(pI 600), (pB false), (.sl true 0 [])]])), (vI 1)]))], [(1001, (.box [(vS (ByteArray.mk #[])), (.p (.sl true 0 [])), (vI 0)]))], .any, [(1001, (.box [(vS (ByteArray.mk #[112])), (.p (.sl true 3 [[(pI 300), (pB false), (.sl true 0 [])], [(pI 600), (pB false), (.sl true 0 [])]])), (vI 1)]))], []⟩)]
  ⟨StepOK.p rfl rfl rfl (OpOK.build (pl := [(0, 1), (1, 1), (2, 1)]) (zs := [(vI 0), (vB false), (.p (.sl true 0 []))]) rfl (by kernel_rfl) (by kernel_rfl) rfl),
  StepOK.p rfl rfl rfl (OpOK.build (pl := [(0, 1), (1, 1), (2, 1)]) (zs := [(vI 0), (vB false), (.p (.sl true 0 []))]) rfl (by kernel_rfl) (by kernel_rfl) rfl),
  StepOK.p rfl rfl rfl (OpOK.buildSlice (e := 44) (zr := [(pI 0), (pB false), (.sl true 0 [])]) rfl (by kernel_rfl) (by kernel_rfl) (by kernel_rfl) (by kernel_rfl) rfl (by kernel_rfl) rfl),
  StepOK.p rfl rfl rfl (OpOK.build (pl := [(0, 1), (1, 1), (2, 1)]) (zs := [(vS (ByteArray.mk #[])), (.p (.sl true 0 [])), (vI 0)]) rfl (by kernel_rfl) (by kernel_rfl) rfl),
  StepOK.p rfl rfl rfl (OpOK.alloc rfl (by kernel_rfl)),
  StepOK.p rfl rfl rfl (OpOK.storeBox rfl rfl rfl rfl rfl (by kernel_rfl) (by kernel_rfl) rfl), rfl⟩
  [(1, (.ref 1001 0))]
  [(1001, (.box [(vS (ByteArray.mk #[112])), (.p (.sl true 3 [[(pI 300), (pB false), (.sl true 0 [])], [(pI 600), (pB false), (.sl true 0 [])]])), (vI 1)]))]
  (by kernel_rfl) ?_
 refine AWp.weaken (mk [(1, (.ref 1001 0))] [(1001, (.box [(vS (ByteArray.mk #[112])), (.p (.sl false 3 [[(pI 300), (pB false), (.sl false 2 [])], [(pI 600), (pB false), (.sl false 2 [])]])), (vI 1)]))]) (Weak.le ⟨rfl, .refl _, trivial⟩ ⟨rfl, (.box (.cons (.refl _) (.cons (.p (PVle.sl (by simp) ⟨⟨PVle.refl _, ⟨PVle.refl _, ⟨(PVle.nil (by simp)), trivial⟩⟩⟩, ⟨⟨PVle.refl _, ⟨PVle.refl _, ⟨(PVle.nil (by simp)), trivial⟩⟩⟩, trivial⟩⟩)) (.cons (.refl _) .nil)))), trivial⟩) ?_
 refine AWp.s_region hGn hGk 
  [(some 9, ⟨[(1, (.ref 1001 0))], [(1001, (.box [(vS (ByteArray.mk #[112])), (.p (.sl false 3 [[(pI 300), (pB false), (.sl false 2 [])], [(pI 600), (pB false), (.sl false 2 [])]])), (vI 1)]))], (.agg [(vS (ByteArray.mk #[112])), (.p (.sl false 3 [[(pI 300), (pB false), (.sl false 2 [])], [(pI 600), (pB false), (.sl false 2 [])]])), (vI 1)]), [], []⟩),
  (some 10, ⟨[(9, (.agg [(vS (ByteArray.mk #[112])), (.p (.sl false 3 [[(pI 300), (pB false), (.sl false 2 [])], [(pI 600), (pB false), (.sl false 2 [])]])), (vI 1)]))], [], (.tup [(vI ((offset (⟨(ByteArray.mk #[112]), ([(⟨(300 : Int), false, ([] : List D.Target)⟩ : D.PolicyStep), (⟨(600 : Int), false, ([] : List D.Target)⟩ : D.PolicyStep)] : List D.PolicyStep), (1 : Int)⟩ : D.Policy) 3).1)), (vB true)]), [], []⟩),
  (some 8, ⟨[(10, (.tup [(vI ((offset (⟨(ByteArray.mk #[112]), ([(⟨(300 : Int), false, ([] : List D.Target)⟩ : D.PolicyStep), (⟨(600 : Int), false, ([] : List D.Target)⟩ : D.PolicyStep)] : List D.PolicyStep), (1 : Int)⟩ : D.Policy) 3).1)), (vB true)]))], [], (.tup [(vI ((offset (⟨(ByteArray.mk #[112]), ([(⟨(300 : Int), false, ([] : List D.Target)⟩ : D.PolicyStep), (⟨(600 : Int), false, ([] : List D.Target)⟩ : D.PolicyStep)] : List D.PolicyStep), (1 : Int)⟩ : D.Policy) 3).1)), (vB true)]), [], []⟩),
  (some 11, ⟨[(8, (.tup [(vI ((offset (⟨(ByteArray.mk #[112]), ([(⟨(300 : Int), false, ([] : List D.Target)⟩ : D.PolicyStep), (⟨(600 : Int), false, ([] : List D.Target)⟩ : D.PolicyStep)] : List D.PolicyStep), (1 : Int)⟩ : D.Policy) 3).1)), (vB true)]))], [], (vI ((offset (⟨(ByteArray.mk #[112]), ([(⟨(300 : Int), false, ([] : List D.Target)⟩ : D.PolicyStep), (⟨(600 : Int), false, ([] : List D.Target)⟩ : D.PolicyStep)] : List D.PolicyStep), (1 : Int)⟩ : D.Policy) 3).1)), [], []⟩),
  (some 12, ⟨[(8, (.tup [(vI ((offset (⟨(ByteArray.mk #[112]), ([(⟨(300 : Int), false, ([] : List D.Target)⟩ : D.PolicyStep), (⟨(600 : Int), false, ([] : List D.Target)⟩ : D.PolicyStep)] : List D.PolicyStep), (1 : Int)⟩ : D.Policy) 3).1)), (vB true)]))], [], (vB true), [], []⟩),
  (some 2, ⟨[(11, (vI ((offset (⟨(ByteArray.mk #[112]), ([(⟨(300 : Int), false, ([] : List D.Target)⟩ : D.PolicyStep), (⟨(600 : Int), false, ([] : List D.Target)⟩ : D.PolicyStep)] : List D.PolicyStep), (1 : Int)⟩ : D.Policy) 3).1)))], [], (vI ((offset (⟨(ByteArray.mk #[112]), ([(⟨(300 : Int), false, ([] : List D.Target)⟩ : D.PolicyStep), (⟨(600 : Int), false, ([] : List D.Target)⟩ : D.PolicyStep)] : List D.PolicyStep), (1 : Int)⟩ : D.Policy) 3).1)), [], []⟩),
  (some 3, ⟨[(12, (vB true))], [], (vB true), [], []⟩)]
  ⟨StepOK.p rfl rfl rfl (OpOK.loadBoxAgg (z := 3) rfl rfl (by kernel_rfl) (by kernel_rfl) rfl rfl),
  StepOK.p rfl rfl rfl (OpOK.call rfl (by kernel_rfl) rfl (by have hq := (pol_Offset (⟨(ByteArray.mk #[112]), ([(⟨(300 : Int), false, ([] : List D.Target)⟩ : D.PolicyStep), (⟨(600 : Int), false, ([] : List D.Target)⟩ : D.PolicyStep)] : List D.PolicyStep), (1 : Int)⟩ : D.Policy) 3 (by first | omega | decide)); rw [sane_0] at hq; exact hq) (by kernel_rfl)),
  StepOK.p rfl rfl rfl (OpOK.move rfl rfl),
  StepOK.p rfl rfl rfl (OpOK.extract rfl rfl rfl),
  StepOK.p rfl rfl rfl (OpOK.extract rfl rfl rfl),
  StepOK.p rfl rfl rfl (OpOK.assign rfl rfl),
  StepOK.p rfl rfl rfl (OpOK.assign rfl rfl), rfl⟩
  [(1, (.ref 1001 0)), (2, (vI ((offset (⟨(ByteArray.mk #[112]), ([(⟨(300 : Int), false, ([] : List D.Target)⟩ : D.PolicyStep), (⟨(600 : Int), false, ([] : List D.Target)⟩ : D.PolicyStep)] : List D.PolicyStep), (1 : Int)⟩ : D.Policy) 3).1))), (3, (vB true))]
  [(1001, (.box [(vS (ByteArray.mk #[112])), (.p (.sl false 3 [[(pI 300), (pB false), (.sl false 2 [])], [(pI 600), (pB false), (.sl false 2 [])]])), (vI 1)]))]
  (by kernel_rfl) ?_
 refine AWp.s_region hGn hGk 
  [(some 13, ⟨[(3, (vB true))], [], (vB true), [], []⟩),
  (some 14, ⟨[(13, (vB true))], [], (vB true), [], []⟩),
  (some 15, ⟨[(2, (vI ((offset (⟨(ByteArray.mk #[112]), ([(⟨(300 : Int), false, ([] : List D.Target)⟩ : D.PolicyStep), (⟨(600 : Int), false, ([] : List D.Target)⟩ : D.PolicyStep)] : List D.PolicyStep), (1 : Int)⟩ : D.Policy) 3).1))), (14, (vB true))], [], (vI ((offset (⟨(ByteArray.mk #[112]), ([(⟨(300 : Int), false, ([] : List D.Target)⟩ : D.PolicyStep), (⟨(600 : Int), false, ([] : List D.Target)⟩ : D.PolicyStep)] : List D.PolicyStep), (1 : Int)⟩ : D.Policy) 3).1)), [], []⟩),
  (some 16, ⟨[(15, (vI ((offset (⟨(ByteArray.mk #[112]), ([(⟨(300 : Int), false, ([] : List D.Target)⟩ : D.PolicyStep), (⟨(600 : Int), false, ([] : List D.Target)⟩ : D.PolicyStep)] : List D.PolicyStep), (1 : Int)⟩ : D.Policy) 3).1))), (14, (vB true))], [], (vB true), [], []⟩),
  (some 17, ⟨[(14, (vB true)), (16, (vB true))], [], (vB true), [], []⟩),
  (some 18, ⟨[(17, (vB true))], [], (vB true), [], []⟩),
  (some 19, ⟨[(1, (.ref 1001 0)), (18, (vB true))], [(1001, (.box [(vS (ByteArray.mk #[112])), (.p (.sl false 3 [[(pI 300), (pB false), (.sl false 2 [])], [(pI 600), (pB false), (.sl false 2 [])]])), (vI 1)]))], (.agg [(vS (ByteArray.mk #[112])), (.p (.sl false 3 [[(pI 300), (pB false), (.sl false 2 [])], [(pI 600), (pB false), (.sl false 2 [])]])), (vI 1)]), [], []⟩),
  (some 20, ⟨[(19, (.agg [(vS (ByteArray.mk #[112])), (.p (.sl false 3 [[(pI 300), (pB false), (.sl false 2 [])], [(pI 600), (pB false), (.sl false 2 [])]])), (vI 1)])), (18, (vB true))], [], (vI ((offset (⟨(ByteArray.mk #[112]), ([(⟨(300 : Int), false, ([] : List D.Target)⟩ : D.PolicyStep), (⟨(600 : Int), false, ([] : List D.Target)⟩ : D.PolicyStep)] : List D.PolicyStep), (1 : Int)⟩ : D.Policy) (count (⟨(ByteArray.mk #[112]), ([(⟨(300 : Int), false, ([] : List D.Target)⟩ : D.PolicyStep), (⟨(600 : Int), false, ([] : List D.Target)⟩ : D.PolicyStep)] : List D.PolicyStep), (1 : Int)⟩ : D.Policy))).1)), [], []⟩),
  (some 21, ⟨[(20, (vI ((offset (⟨(ByteArray.mk #[112]), ([(⟨(300 : Int), false, ([] : List D.Target)⟩ : D.PolicyStep), (⟨(600 : Int), false, ([] : List D.Target)⟩ : D.PolicyStep)] : List D.PolicyStep), (1 : Int)⟩ : D.Policy) (count (⟨(ByteArray.mk #[112]), ([(⟨(300 : Int), false, ([] : List D.Target)⟩ : D.PolicyStep), (⟨(600 : Int), false, ([] : List D.Target)⟩ : D.PolicyStep)] : List D.PolicyStep), (1 : Int)⟩ : D.Policy))).1))), (18, (vB true))], [], (vB true), [], []⟩),
  (some 22, ⟨[(18, (vB true)), (21, (vB true))], [], (vB true), [], []⟩),
  (some 23, ⟨[(22, (vB true))], [], (vB true), [], []⟩),
  (some 24, ⟨[(1, (.ref 1001 0)), (23, (vB true))], [(1001, (.box [(vS (ByteArray.mk #[112])), (.p (.sl false 3 [[(pI 300), (pB false), (.sl false 2 [])], [(pI 600), (pB false), (.sl false 2 [])]])), (vI 1)]))], (.agg [(vS (ByteArray.mk #[112])), (.p (.sl false 3 [[(pI 300), (pB false), (.sl false 2 [])], [(pI 600), (pB false), (.sl false 2 [])]])), (vI 1)]), [], []⟩),
  (some 25, ⟨[(24, (.agg [(vS (ByteArray.mk #[112])), (.p (.sl false 3 [[(pI 300), (pB false), (.sl false 2 [])], [(pI 600), (pB false), (.sl false 2 [])]])), (vI 1)])), (23, (vB true))], [], (vI ((started (⟨(ByteArray.mk #[112]), ([(⟨(300 : Int), false, ([] : List D.Target)⟩ : D.PolicyStep), (⟨(600 : Int), false, ([] : List D.Target)⟩ : D.PolicyStep)] : List D.PolicyStep), (1 : Int)⟩ : D.Policy) 300 : Nat) : Int)), [], []⟩),
  (some 26, ⟨[(25, (vI ((started (⟨(ByteArray.mk #[112]), ([(⟨(300 : Int), false, ([] : List D.Target)⟩ : D.PolicyStep), (⟨(600 : Int), false, ([] : List D.Target)⟩ : D.PolicyStep)] : List D.PolicyStep), (1 : Int)⟩ : D.Policy) 300 : Nat) : Int))), (23, (vB true))], [], (vB true), [], []⟩),
  (some 27, ⟨[(23, (vB true)), (26, (vB true))], [], (vB true), [], []⟩),
  (some 28, ⟨[(27, (vB true))], [], (vB true), [], []⟩),
  (some 29, ⟨[(1, (.ref 1001 0)), (28, (vB true))], [(1001, (.box [(vS (ByteArray.mk #[112])), (.p (.sl false 3 [[(pI 300), (pB false), (.sl false 2 [])], [(pI 600), (pB false), (.sl false 2 [])]])), (vI 1)]))], (.agg [(vS (ByteArray.mk #[112])), (.p (.sl false 3 [[(pI 300), (pB false), (.sl false 2 [])], [(pI 600), (pB false), (.sl false 2 [])]])), (vI 1)]), [], []⟩),
  (some 30, ⟨[(29, (.agg [(vS (ByteArray.mk #[112])), (.p (.sl false 3 [[(pI 300), (pB false), (.sl false 2 [])], [(pI 600), (pB false), (.sl false 2 [])]])), (vI 1)])), (28, (vB true))], [], (vI (count (⟨(ByteArray.mk #[112]), ([(⟨(300 : Int), false, ([] : List D.Target)⟩ : D.PolicyStep), (⟨(600 : Int), false, ([] : List D.Target)⟩ : D.PolicyStep)] : List D.PolicyStep), (1 : Int)⟩ : D.Policy))), [], []⟩),
  (some 31, ⟨[(30, (vI (count (⟨(ByteArray.mk #[112]), ([(⟨(300 : Int), false, ([] : List D.Target)⟩ : D.PolicyStep), (⟨(600 : Int), false, ([] : List D.Target)⟩ : D.PolicyStep)] : List D.PolicyStep), (1 : Int)⟩ : D.Policy)))), (28, (vB true))], [], (vB true), [], []⟩),
  (some 32, ⟨[(28, (vB true)), (31, (vB true))], [], (vB true), [], []⟩),
  (some 0, ⟨[(32, (vB true))], [], (vB true), [], []⟩)]
  ⟨StepOK.p rfl rfl rfl (OpOK.move rfl rfl),
  StepOK.p rfl rfl rfl (OpOK.move rfl rfl),
  StepOK.g rfl rfl rfl rfl rfl (by simp) (OpOK.move rfl rfl),
  StepOK.g rfl rfl rfl rfl rfl (by simp) (OpOK.eqlI rfl rfl rfl sane_1),
  StepOK.p rfl rfl rfl (OpOK.pickT rfl rfl rfl),
  StepOK.p rfl rfl rfl (OpOK.move rfl rfl),
  StepOK.g rfl rfl rfl rfl rfl (by simp) (OpOK.loadBoxAgg (z := 3) rfl rfl (by kernel_rfl) (by kernel_rfl) rfl rfl),
  StepOK.g rfl rfl rfl rfl rfl (by simp) (OpOK.call rfl (by kernel_rfl) rfl (pol_End (⟨(ByteArray.mk #[112]), ([(⟨(300 : Int), false, ([] : List D.Target)⟩ : D.PolicyStep), (⟨(600 : Int), false, ([] : List D.Target)⟩ : D.PolicyStep)] : List D.PolicyStep), (1 : Int)⟩ : D.Policy) (by first | omega | decide)) (by kernel_rfl)),
  StepOK.g rfl rfl rfl rfl rfl (by simp) (OpOK.eqlI rfl rfl rfl sane_2),
  StepOK.p rfl rfl rfl (OpOK.pickT rfl rfl rfl),
  StepOK.p rfl rfl rfl (OpOK.move rfl rfl),
  StepOK.g rfl rfl rfl rfl rfl (by simp) (OpOK.loadBoxAgg (z := 3) rfl rfl (by kernel_rfl) (by kernel_rfl) rfl rfl),
  StepOK.g rfl rfl rfl rfl rfl (by simp) (OpOK.call rfl (by kernel_rfl) rfl (pol_Started (⟨(ByteArray.mk #[112]), ([(⟨(300 : Int), false, ([] : List D.Target)⟩ : D.PolicyStep), (⟨(600 : Int), false, ([] : List D.Target)⟩ : D.PolicyStep)] : List D.PolicyStep), (1 : Int)⟩ : D.Policy) 300 (by first | omega | decide)) (by kernel_rfl)),
  StepOK.g rfl rfl rfl rfl rfl (by simp) (OpOK.eqlI rfl rfl rfl sane_3),
  StepOK.p rfl rfl rfl (OpOK.pickT rfl rfl rfl),
  StepOK.p rfl rfl rfl (OpOK.move rfl rfl),
  StepOK.g rfl rfl rfl rfl rfl (by simp) (OpOK.loadBoxAgg (z := 3) rfl rfl (by kernel_rfl) (by kernel_rfl) rfl rfl),
  StepOK.g rfl rfl rfl rfl rfl (by simp) (OpOK.call rfl (by kernel_rfl) rfl (pol_Count (⟨(ByteArray.mk #[112]), ([(⟨(300 : Int), false, ([] : List D.Target)⟩ : D.PolicyStep), (⟨(600 : Int), false, ([] : List D.Target)⟩ : D.PolicyStep)] : List D.PolicyStep), (1 : Int)⟩ : D.Policy) (by first | omega | decide)) (by kernel_rfl)),
  StepOK.g rfl rfl rfl rfl rfl (by simp) (OpOK.eqlI rfl rfl rfl sane_4),
  StepOK.p rfl rfl rfl (OpOK.pickT rfl rfl rfl),
  StepOK.p rfl rfl rfl (OpOK.assign rfl rfl), rfl⟩
  [(0, (vB true))]
  []
  (by kernel_rfl) ?_
 refine AWp.ret ?_
 refine fin_of (.inr rfl) (v := (vB true)) (Res.tmp rfl rfl) (h' := []) rfl rfl ?_
 exact ⟨rfl, rfl⟩

theorem pol_Offset_ok (p : D.Policy) (k : Nat) (hg : Good p) (hk : (k : Int) ≤ count p) :
    SpecIs Try.prog 11 [(.agg [(vS p.Name), (.p (.sl false 3 (p.Steps.map D.PolicyStep.cells))), (vI p.Repeat)]), (vI ((k : Nat) : Int))] [] (.tup [(vI (offW p k)), (vB true)]) [] := by
  have h := pol_Offset p k (by have := hg.len8; omega)
  rw [hg.offset hk] at h
  exact h
theorem pol_End_ok (p : D.Policy) (hg : Good p) : SpecIs Try.prog 12 [(.agg [(vS p.Name), (.p (.sl false 3 (p.Steps.map D.PolicyStep.cells))), (vI p.Repeat)])] [] (vI (offW p (count p).toNat)) [] := by
  have h := pol_End p (by have := hg.len8; omega)
  rw [hg.ends] at h
  exact h
theorem pol_End_one (p : D.Policy) (hg : Good p) : SpecIs Try.prog 12 [(.agg [(vS ((oneRound p).Name)), (.p (.sl false 3 (((oneRound p).Steps).map D.PolicyStep.cells))), (vI ((oneRound p).Repeat))])] [] (vI (offW p p.Steps.length)) [] := by
  have h := pol_End (oneRound p) (by have := hg.len8; exact Nat.le_trans this (by decide))
  rw [hg.oneEnd] at h
  exact h
end Go.Proofs.Yteccnpkpjaknkaa
