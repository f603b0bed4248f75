/-
  The walks of the reference: counts and offsets. Printed by wip/gen/pol.py.
-/
import Derived.Test.YteccnpkpjaknkaaPolWalk
import Derived.Test.YteccnpkpjaknkaaRefLaw
set_option maxRecDepth 100000
set_option linter.unusedSimpArgs false
set_option linter.unusedVariables false
namespace Go.Proofs.Yteccnpkpjaknkaa
open Go AM
theorem ref_In (n lo hi : Int) :
    SpecIs Try.prog 26 [(vI n), (vI lo), (vI hi)] [] (vB (inB n lo hi)) [] := by
 refine Spec.intro Try.func26 rfl (by kernel_rfl) ?_
 intro Γ hGn hGk
 replace hGn : Γ.n = 15 := hGn
 replace hGk : Γ.names = [] := hGk
 refine AWp.weaken (mk [(0, (vI n)), (1, (vI lo)), (2, (vI hi))] []) (Weak.sub' hGk (by kernel_rfl)) ?_
 refine AWp.s_region hGn hGk 
  [(some 6, ⟨[], [], (vB false), [], []⟩)]
  ⟨StepOK.p rfl rfl rfl (OpOK.assign rfl rfl), rfl⟩
  [(0, (vI n)), (1, (vI lo)), (2, (vI hi))]
  []
  (by kernel_rfl) ?_
 by_cases hs1 : lo ≤ n
 ·skip
  refine AWp.s_region hGn hGk 
   [(some 7, ⟨[(0, (vI n))], [], (vI n), [], []⟩),
   (some 8, ⟨[(1, (vI lo))], [], (vI lo), [], []⟩),
   (some 9, ⟨[(7, (vI n)), (8, (vI lo))], [], (vB true), [], []⟩),
   (some 10, ⟨[(9, (vB true))], [], (vB true), [], []⟩),
   (some 11, ⟨[(0, (vI n)), (10, (vB true))], [], (vI n), [], []⟩),
   (some 12, ⟨[(2, (vI hi)), (10, (vB true))], [], (vI hi), [], []⟩),
   (some 13, ⟨[(11, (vI n)), (12, (vI hi)), (10, (vB true))], [], (vB (decide (n ≤ hi))), [], []⟩),
   (some 14, ⟨[(10, (vB true)), (13, (vB (decide (n ≤ hi))))], [], (vB (decide (n ≤ hi))), [], []⟩),
   (some 6, ⟨[(14, (vB (decide (n ≤ hi))))], [], (vB (decide (n ≤ hi))), [], []⟩)]
   ⟨StepOK.p rfl rfl rfl (OpOK.move rfl rfl),
   StepOK.p rfl rfl rfl (OpOK.move rfl rfl),
   StepOK.p rfl rfl rfl (OpOK.geq rfl rfl rfl (decide_eq_true hs1)),
   StepOK.p rfl rfl rfl (OpOK.move rfl rfl),
   StepOK.g rfl rfl rfl rfl rfl (by simp) (OpOK.move rfl rfl),
   StepOK.g rfl rfl rfl rfl rfl (by simp) (OpOK.move rfl rfl),
   StepOK.g rfl rfl rfl rfl rfl (by simp) (OpOK.leq rfl rfl rfl rfl),
   StepOK.p rfl rfl rfl (OpOK.pickT rfl rfl rfl),
   StepOK.p rfl rfl rfl (OpOK.assign rfl rfl), rfl⟩
   [(6, (vB (decide (n ≤ hi))))]
   []
   (by kernel_rfl) ?_
  refine AWp.ret ?_
  refine fin_of (.inr rfl) (v := (vB (decide (n ≤ hi)))) (Res.tmp rfl rfl) (h' := []) rfl rfl ?_
  exact ⟨by simp [inB, *], rfl⟩
 ·skip
  refine AWp.s_region hGn hGk 
   [(some 7, ⟨[(0, (vI n))], [], (vI n), [], []⟩),
   (some 8, ⟨[(1, (vI lo))], [], (vI lo), [], []⟩),
   (some 9, ⟨[(7, (vI n)), (8, (vI lo))], [], (vB false), [], []⟩),
   (some 10, ⟨[(9, (vB false))], [], (vB false), [], []⟩),
   (some 11, ⟨[(10, (vB false))], [], (.tup []), [], []⟩),
   (some 12, ⟨[(10, (vB false))], [], (.tup []), [], []⟩),
   (some 13, ⟨[(10, (vB false))], [], (.tup []), [], []⟩),
   (some 14, ⟨[(10, (vB false))], [], (vB false), [], []⟩),
   (some 6, ⟨[(14, (vB false))], [], (vB false), [], []⟩)]
   ⟨StepOK.p rfl rfl rfl (OpOK.move rfl rfl),
   StepOK.p rfl rfl rfl (OpOK.move rfl rfl),
   StepOK.p rfl rfl rfl (OpOK.geq rfl rfl rfl (decide_eq_false hs1)),
   StepOK.p rfl rfl rfl (OpOK.move rfl rfl),
   StepOK.k rfl rfl rfl rfl rfl rfl,
   StepOK.k rfl rfl rfl rfl rfl rfl,
   StepOK.k rfl rfl rfl rfl rfl rfl,
   StepOK.p rfl rfl rfl (OpOK.pickF rfl rfl rfl),
   StepOK.p rfl rfl rfl (OpOK.assign rfl rfl), rfl⟩
   [(6, (vB false))]
   []
   (by kernel_rfl) ?_
  refine AWp.ret ?_
  refine fin_of (.inr rfl) (v := (vB false)) (Res.tmp rfl rfl) (h' := []) rfl rfl ?_
  exact ⟨by simp [inB, *], rfl⟩

theorem ref_Count (p : D.Policy) (hl : p.Steps.length ≤ 1000000) :
    SpecIs Try.prog 17 [(.agg [(vS p.Name), (.p (.sl false 3 (p.Steps.map D.PolicyStep.cells))), (vI p.Repeat)])] [] (vI (count p)) [] := by
 refine Spec.intro Try.func17 rfl (by kernel_rfl) ?_
 intro Γ hGn hGk
 replace hGn : Γ.n = 20 := hGn
 replace hGk : Γ.names = [] := hGk
 refine AWp.weaken (mk [(0, (.agg [(vS p.Name), (.p (.sl false 3 (p.Steps.map D.PolicyStep.cells))), (vI p.Repeat)]))] []) (Weak.sub' hGk (by kernel_rfl)) ?_
 refine AWp.s_region hGn hGk 
  [(some 1, ⟨[(0, (.agg [(vS p.Name), (.p (.sl false 3 (p.Steps.map D.PolicyStep.cells))), (vI p.Repeat)]))], [], (.ref 1001 0), [(1001, (.box [(vS p.Name), (.p (.sl false 3 (p.Steps.map D.PolicyStep.cells))), (vI p.Repeat)]))], [1001]⟩),
  (some 2, ⟨[], [], (vI 0), [], []⟩)]
  ⟨StepOK.p rfl rfl rfl (OpOK.box rfl rfl rfl),
  StepOK.p rfl rfl rfl (OpOK.assign rfl rfl), rfl⟩
  [(1, (.ref 1001 0))]
  [(1001, (.box [(vS p.Name), (.p (.sl false 3 (p.Steps.map D.PolicyStep.cells))), (vI p.Repeat)]))]
  (by kernel_rfl) ?_
 refine AWp.seq ?_
 cases hs1 : inB p.Repeat 0 8
 ·skip
  have ha2 := inB_false hs1
  refine AWp.s_region hGn hGk 
   [(some 3, ⟨[(1, (.ref 1001 0))], [(1001, (.box [(vS p.Name), (.p (.sl false 3 (p.Steps.map D.PolicyStep.cells))), (vI p.Repeat)]))], (.ref 1001 2), [], []⟩),
   (some 4, ⟨[(3, (.ref 1001 2))], [(1001, (.box [(vS p.Name), (.p (.sl false 3 (p.Steps.map D.PolicyStep.cells))), (vI p.Repeat)]))], (vI p.Repeat), [], []⟩),
   (some 5, ⟨[(4, (vI p.Repeat))], [], (vB false), [], []⟩),
   (some 6, ⟨[(5, (vB false))], [], (vB true), [], []⟩),
   (some 7, ⟨[(6, (vB true))], [], (vB true), [], []⟩),
   (some 8, ⟨[(7, (vB true))], [], (.tup []), [], []⟩),
   (some 9, ⟨[(7, (vB true))], [], (.tup []), [], []⟩),
   (some 10, ⟨[(7, (vB true))], [], (.tup []), [], []⟩),
   (some 11, ⟨[(7, (vB true))], [], (.tup []), [], []⟩),
   (some 12, ⟨[(7, (vB true))], [], (vB true), [], []⟩)]
   ⟨StepOK.p rfl rfl rfl (OpOK.fieldRef (fo := 2) rfl rfl (by kernel_rfl) rfl),
   StepOK.p rfl rfl rfl (OpOK.loadBox rfl rfl (by kernel_rfl) rfl),
   StepOK.p rfl rfl rfl (OpOK.call rfl (by kernel_rfl) rfl (by have hq := (ref_In p.Repeat 0 8); rw [hs1] at hq; exact hq) (by kernel_rfl)),
   StepOK.p rfl rfl rfl (OpOK.not rfl rfl rfl),
   StepOK.p rfl rfl rfl (OpOK.move rfl rfl),
   StepOK.k rfl rfl rfl rfl rfl rfl,
   StepOK.k rfl rfl rfl rfl rfl rfl,
   StepOK.k rfl rfl rfl rfl rfl rfl,
   StepOK.k rfl rfl rfl rfl rfl rfl,
   StepOK.p rfl rfl rfl (OpOK.pickT rfl rfl rfl), rfl⟩
   [(1, (.ref 1001 0)), (12, (vB true))]
   [(1001, (.box [(vS p.Name), (.p (.sl false 3 (p.Steps.map D.PolicyStep.cells))), (vI p.Repeat)]))]
   (by kernel_rfl) ?_
  refine AWp.cond_true rfl ?_
  refine AWp.s_region hGn hGk 
   [(some 2, ⟨[], [], (vI 0), [], []⟩)]
   ⟨StepOK.p rfl rfl rfl (OpOK.assign rfl rfl), rfl⟩
   [(2, (vI 0))]
   []
   (by kernel_rfl) ?_
  refine AWp.ret ?_
  refine nextQ_ret ?_
  refine fin_of (.inr rfl) (v := (vI 0)) (Res.tmp rfl rfl) (h' := []) rfl rfl ?_
  exact ⟨by first | (simp [count, *]; done) | (simp [count, *]; omega), rfl⟩
 ·skip
  have ha3 := inB_spec hs1
  refine AWp.s_region hGn hGk 
   [(some 3, ⟨[(1, (.ref 1001 0))], [(1001, (.box [(vS p.Name), (.p (.sl false 3 (p.Steps.map D.PolicyStep.cells))), (vI p.Repeat)]))], (.ref 1001 2), [], []⟩),
   (some 4, ⟨[(3, (.ref 1001 2))], [(1001, (.box [(vS p.Name), (.p (.sl false 3 (p.Steps.map D.PolicyStep.cells))), (vI p.Repeat)]))], (vI p.Repeat), [], []⟩),
   (some 5, ⟨[(4, (vI p.Repeat))], [], (vB true), [], []⟩),
   (some 6, ⟨[(5, (vB true))], [], (vB false), [], []⟩),
   (some 7, ⟨[(6, (vB false))], [], (vB false), [], []⟩),
   (some 8, ⟨[(1, (.ref 1001 0)), (7, (vB false))], [(1001, (.box [(vS p.Name), (.p (.sl false 3 (p.Steps.map D.PolicyStep.cells))), (vI p.Repeat)]))], (.ref 1001 1), [], []⟩),
   (some 9, ⟨[(8, (.ref 1001 1)), (7, (vB false))], [(1001, (.box [(vS p.Name), (.p (.sl false 3 (p.Steps.map D.PolicyStep.cells))), (vI p.Repeat)]))], (.p (.sl false 3 (p.Steps.map D.PolicyStep.cells))), [], []⟩),
   (some 10, ⟨[(9, (.p (.sl false 3 (p.Steps.map D.PolicyStep.cells)))), (7, (vB false))], [], (vI ((p.Steps.length : Nat) : Int)), [], []⟩),
   (some 11, ⟨[(10, (vI ((p.Steps.length : Nat) : Int))), (7, (vB false))], [], (vB (decide ((8 : Int) < ((p.Steps.length : Nat) : Int)))), [], []⟩),
   (some 12, ⟨[(7, (vB false)), (11, (vB (decide ((8 : Int) < ((p.Steps.length : Nat) : Int)))))], [], (vB (decide ((8 : Int) < ((p.Steps.length : Nat) : Int)))), [], []⟩)]
   ⟨StepOK.p rfl rfl rfl (OpOK.fieldRef (fo := 2) rfl rfl (by kernel_rfl) rfl),
   StepOK.p rfl rfl rfl (OpOK.loadBox rfl rfl (by kernel_rfl) rfl),
   StepOK.p rfl rfl rfl (OpOK.call rfl (by kernel_rfl) rfl (by have hq := (ref_In p.Repeat 0 8); rw [hs1] at hq; exact hq) (by kernel_rfl)),
   StepOK.p rfl rfl rfl (OpOK.not rfl rfl rfl),
   StepOK.p rfl rfl rfl (OpOK.move rfl rfl),
   StepOK.g rfl rfl rfl rfl rfl (by simp) (OpOK.fieldRef (fo := 1) rfl rfl (by kernel_rfl) rfl),
   StepOK.g rfl rfl rfl rfl rfl (by simp) (OpOK.loadBox rfl rfl (by kernel_rfl) rfl),
   StepOK.g rfl rfl rfl rfl rfl (by simp) (OpOK.lenP (e := 44) rfl rfl (by kernel_rfl) rfl (by rw [List.length_map])),
   StepOK.g rfl rfl rfl rfl rfl (by simp) (OpOK.gtr rfl rfl rfl rfl),
   StepOK.p rfl rfl rfl (OpOK.pickF rfl rfl rfl), rfl⟩
   [(1, (.ref 1001 0)), (12, (vB (decide ((8 : Int) < ((p.Steps.length : Nat) : Int)))))]
   [(1001, (.box [(vS p.Name), (.p (.sl false 3 (p.Steps.map D.PolicyStep.cells))), (vI p.Repeat)]))]
   (by kernel_rfl) ?_
  refine AWp.cond (decide ((8 : Int) < ((p.Steps.length : Nat) : Int))) rfl (fun hc4 => ?_) (fun hc4 => ?_)
  ·skip
   replace hc4 := of_decide_eq_true hc4
   refine AWp.s_region hGn hGk 
    [(some 2, ⟨[], [], (vI 0), [], []⟩)]
    ⟨StepOK.p rfl rfl rfl (OpOK.assign rfl rfl), rfl⟩
    [(2, (vI 0))]
    []
    (by kernel_rfl) ?_
   refine AWp.ret ?_
   refine nextQ_ret ?_
   refine fin_of (.inr rfl) (v := (vI 0)) (Res.tmp rfl rfl) (h' := []) rfl rfl ?_
   exact ⟨by first | (simp [count, *]; done) | (simp [count, *]; omega), rfl⟩
  ·skip
   replace hc4 := of_decide_eq_false hc4
   refine AWp.skip ?_
   refine nextQ_normal ?_
   refine AWp.s_region hGn hGk 
    [(some 13, ⟨[(1, (.ref 1001 0))], [(1001, (.box [(vS p.Name), (.p (.sl false 3 (p.Steps.map D.PolicyStep.cells))), (vI p.Repeat)]))], (.ref 1001 1), [], []⟩),
    (some 14, ⟨[(13, (.ref 1001 1))], [(1001, (.box [(vS p.Name), (.p (.sl false 3 (p.Steps.map D.PolicyStep.cells))), (vI p.Repeat)]))], (.p (.sl false 3 (p.Steps.map D.PolicyStep.cells))), [], []⟩),
    (some 15, ⟨[(14, (.p (.sl false 3 (p.Steps.map D.PolicyStep.cells))))], [], (vI ((p.Steps.length : Nat) : Int)), [], []⟩),
    (some 16, ⟨[(1, (.ref 1001 0))], [(1001, (.box [(vS p.Name), (.p (.sl false 3 (p.Steps.map D.PolicyStep.cells))), (vI p.Repeat)]))], (.ref 1001 2), [], []⟩),
    (some 17, ⟨[(16, (.ref 1001 2))], [(1001, (.box [(vS p.Name), (.p (.sl false 3 (p.Steps.map D.PolicyStep.cells))), (vI p.Repeat)]))], (vI p.Repeat), [], []⟩),
    (some 18, ⟨[(17, (vI p.Repeat))], [], (vI (p.Repeat + 1)), [], []⟩),
    (some 19, ⟨[(15, (vI ((p.Steps.length : Nat) : Int))), (18, (vI (p.Repeat + 1)))], [], (vI (((p.Steps.length : Nat) : Int) * (p.Repeat + 1))), [], []⟩),
    (some 2, ⟨[(19, (vI (((p.Steps.length : Nat) : Int) * (p.Repeat + 1))))], [], (vI (((p.Steps.length : Nat) : Int) * (p.Repeat + 1))), [], []⟩)]
    ⟨StepOK.p rfl rfl rfl (OpOK.fieldRef (fo := 1) rfl rfl (by kernel_rfl) rfl),
    StepOK.p rfl rfl rfl (OpOK.loadBox rfl rfl (by kernel_rfl) rfl),
    StepOK.p rfl rfl rfl (OpOK.lenP (e := 44) rfl rfl (by kernel_rfl) rfl (by rw [List.length_map])),
    StepOK.p rfl rfl rfl (OpOK.fieldRef (fo := 2) rfl rfl (by kernel_rfl) rfl),
    StepOK.p rfl rfl rfl (OpOK.loadBox rfl rfl (by kernel_rfl) rfl),
    StepOK.p rfl rfl rfl (OpOK.add rfl rfl rfl (IntWalk.i64_in _ (by have := inB_spec ‹_›; omega))),
    StepOK.p rfl rfl rfl (OpOK.mul rfl rfl rfl (IntWalk.i64_in _ (count_in ‹_› (by omega)))),
    StepOK.p rfl rfl rfl (OpOK.assign rfl rfl), rfl⟩
    [(2, (vI (((p.Steps.length : Nat) : Int) * (p.Repeat + 1))))]
    []
    (by kernel_rfl) ?_
   refine AWp.ret ?_
   refine fin_of (.inr rfl) (v := (vI (((p.Steps.length : Nat) : Int) * (p.Repeat + 1)))) (Res.tmp rfl rfl) (h' := []) rfl rfl ?_
   exact ⟨by first | (simp [count, *]; done) | (simp [count, *]; omega), rfl⟩

theorem ref_Part (p : D.Policy) (k : Int) (hl : p.Steps.length ≤ 1000000) :
    SpecIs Try.prog 18 [(.agg [(vS p.Name), (.p (.sl false 3 (p.Steps.map D.PolicyStep.cells))), (vI p.Repeat)]), (vI k)] [] (.tup [(vI ((part p k).1)), (vI ((part p k).2.1)), (vB ((part p k).2.2))]) [] := by
 refine Spec.intro Try.func18 rfl (by kernel_rfl) ?_
 intro Γ hGn hGk
 replace hGn : Γ.n = 25 := hGn
 replace hGk : Γ.names = [] := hGk
 have hcl := count_le p
 refine AWp.weaken (mk [(0, (.agg [(vS p.Name), (.p (.sl false 3 (p.Steps.map D.PolicyStep.cells))), (vI p.Repeat)])), (1, (vI k))] []) (Weak.sub' hGk (by kernel_rfl)) ?_
 refine AWp.s_region hGn hGk 
  [(some 2, ⟨[(0, (.agg [(vS p.Name), (.p (.sl false 3 (p.Steps.map D.PolicyStep.cells))), (vI p.Repeat)]))], [], (.ref 1002 0), [(1002, (.box [(vS p.Name), (.p (.sl false 3 (p.Steps.map D.PolicyStep.cells))), (vI p.Repeat)]))], [1002]⟩),
  (some 4, ⟨[], [], (vI 0), [], []⟩),
  (some 5, ⟨[], [], (vI 0), [], []⟩),
  (some 6, ⟨[], [], (vB false), [], []⟩)]
  ⟨StepOK.p rfl rfl rfl (OpOK.box rfl rfl rfl),
  StepOK.p rfl rfl rfl (OpOK.assign rfl rfl),
  StepOK.p rfl rfl rfl (OpOK.assign rfl rfl),
  StepOK.p rfl rfl rfl (OpOK.assign rfl rfl), rfl⟩
  [(1, (vI k)), (2, (.ref 1002 0))]
  [(1002, (.box [(vS p.Name), (.p (.sl false 3 (p.Steps.map D.PolicyStep.cells))), (vI p.Repeat)]))]
  (by kernel_rfl) ?_
 refine AWp.seq ?_
 by_cases hs1 : k < (0 : Int)
 ·skip
  refine AWp.s_region hGn hGk 
   [(some 7, ⟨[(1, (vI k))], [], (vI k), [], []⟩),
   (some 8, ⟨[(7, (vI k))], [], (vB true), [], []⟩),
   (some 9, ⟨[(8, (vB true))], [], (vB true), [], []⟩),
   (some 10, ⟨[(9, (vB true))], [], (.tup []), [], []⟩),
   (some 11, ⟨[(9, (vB true))], [], (.tup []), [], []⟩),
   (some 12, ⟨[(9, (vB true))], [], (.tup []), [], []⟩),
   (some 13, ⟨[(9, (vB true))], [], (.tup []), [], []⟩),
   (some 14, ⟨[(9, (vB true))], [], (vB true), [], []⟩)]
   ⟨StepOK.p rfl rfl rfl (OpOK.move rfl rfl),
   StepOK.p rfl rfl rfl (OpOK.lss rfl rfl rfl (decide_eq_true hs1)),
   StepOK.p rfl rfl rfl (OpOK.move rfl rfl),
   StepOK.k rfl rfl rfl rfl rfl rfl,
   StepOK.k rfl rfl rfl rfl rfl rfl,
   StepOK.k rfl rfl rfl rfl rfl rfl,
   StepOK.k rfl rfl rfl rfl rfl rfl,
   StepOK.p rfl rfl rfl (OpOK.pickT rfl rfl rfl), rfl⟩
   [(1, (vI k)), (2, (.ref 1002 0)), (14, (vB true))]
   [(1002, (.box [(vS p.Name), (.p (.sl false 3 (p.Steps.map D.PolicyStep.cells))), (vI p.Repeat)]))]
   (by kernel_rfl) ?_
  refine AWp.cond_true rfl ?_
  refine AWp.s_region hGn hGk 
   [(some 4, ⟨[], [], (vI 0), [], []⟩),
   (some 5, ⟨[], [], (vI 0), [], []⟩),
   (some 6, ⟨[], [], (vB false), [], []⟩)]
   ⟨StepOK.p rfl rfl rfl (OpOK.assign rfl rfl),
   StepOK.p rfl rfl rfl (OpOK.assign rfl rfl),
   StepOK.p rfl rfl rfl (OpOK.assign rfl rfl), rfl⟩
   [(4, (vI 0)), (5, (vI 0)), (6, (vB false))]
   []
   (by kernel_rfl) ?_
  refine AWp.ret ?_
  refine nextQ_ret ?_
  refine fin_of (.inr rfl) (v := (.tup [(vI 0), (vI 0), (vB false)])) (Res.many (by kernel_rfl) (Res1s.cons (Res1.tmp rfl) (Res1s.cons (Res1.tmp rfl) (Res1s.cons (Res1.tmp rfl) Res1s.nil)))) (h' := []) rfl rfl ?_
  exact ⟨by rw [part_no (p := p) (k := k) (by omega)], rfl⟩
 ·skip
  refine AWp.s_region hGn hGk 
   [(some 7, ⟨[(1, (vI k))], [], (vI k), [], []⟩),
   (some 8, ⟨[(7, (vI k))], [], (vB false), [], []⟩),
   (some 9, ⟨[(8, (vB false))], [], (vB false), [], []⟩),
   (some 10, ⟨[(1, (vI k)), (9, (vB false))], [], (vI k), [], []⟩),
   (some 11, ⟨[(2, (.ref 1002 0)), (9, (vB false))], [(1002, (.box [(vS p.Name), (.p (.sl false 3 (p.Steps.map D.PolicyStep.cells))), (vI p.Repeat)]))], (.agg [(vS p.Name), (.p (.sl false 3 (p.Steps.map D.PolicyStep.cells))), (vI p.Repeat)]), [], []⟩),
   (some 12, ⟨[(11, (.agg [(vS p.Name), (.p (.sl false 3 (p.Steps.map D.PolicyStep.cells))), (vI p.Repeat)])), (9, (vB false))], [], (vI (count p)), [], []⟩),
   (some 13, ⟨[(10, (vI k)), (12, (vI (count p))), (9, (vB false))], [], (vB (decide ((count p) ≤ k))), [], []⟩),
   (some 14, ⟨[(9, (vB false)), (13, (vB (decide ((count p) ≤ k))))], [], (vB (decide ((count p) ≤ k))), [], []⟩)]
   ⟨StepOK.p rfl rfl rfl (OpOK.move rfl rfl),
   StepOK.p rfl rfl rfl (OpOK.lss rfl rfl rfl (decide_eq_false hs1)),
   StepOK.p rfl rfl rfl (OpOK.move rfl rfl),
   StepOK.g rfl rfl rfl rfl rfl (by simp) (OpOK.move rfl rfl),
   StepOK.g rfl rfl rfl rfl rfl (by simp) (OpOK.loadBoxAgg (z := 3) rfl rfl (by kernel_rfl) (by kernel_rfl) rfl rfl),
   StepOK.g rfl rfl rfl rfl rfl (by simp) (OpOK.call rfl (by kernel_rfl) rfl (ref_Count p (by first | omega | decide)) (by kernel_rfl)),
   StepOK.g rfl rfl rfl rfl rfl (by simp) (OpOK.geq rfl rfl rfl rfl),
   StepOK.p rfl rfl rfl (OpOK.pickF rfl rfl rfl), rfl⟩
   [(1, (vI k)), (2, (.ref 1002 0)), (14, (vB (decide ((count p) ≤ k))))]
   [(1002, (.box [(vS p.Name), (.p (.sl false 3 (p.Steps.map D.PolicyStep.cells))), (vI p.Repeat)]))]
   (by kernel_rfl) ?_
  refine AWp.cond (decide ((count p) ≤ k)) rfl (fun hc2 => ?_) (fun hc2 => ?_)
  ·skip
   replace hc2 := of_decide_eq_true hc2
   refine AWp.s_region hGn hGk 
    [(some 4, ⟨[], [], (vI 0), [], []⟩),
    (some 5, ⟨[], [], (vI 0), [], []⟩),
    (some 6, ⟨[], [], (vB false), [], []⟩)]
    ⟨StepOK.p rfl rfl rfl (OpOK.assign rfl rfl),
    StepOK.p rfl rfl rfl (OpOK.assign rfl rfl),
    StepOK.p rfl rfl rfl (OpOK.assign rfl rfl), rfl⟩
    [(4, (vI 0)), (5, (vI 0)), (6, (vB false))]
    []
    (by kernel_rfl) ?_
   refine AWp.ret ?_
   refine nextQ_ret ?_
   refine fin_of (.inr rfl) (v := (.tup [(vI 0), (vI 0), (vB false)])) (Res.many (by kernel_rfl) (Res1s.cons (Res1.tmp rfl) (Res1s.cons (Res1.tmp rfl) (Res1s.cons (Res1.tmp rfl) Res1s.nil)))) (h' := []) rfl rfl ?_
   exact ⟨by rw [part_no (p := p) (k := k) (by omega)], rfl⟩
  ·skip
   replace hc2 := of_decide_eq_false hc2
   refine AWp.skip ?_
   refine nextQ_normal ?_
   have hl0 := count_pos2 (p := p) (k := k) (by omega)
   refine AWp.s_draw hGn hGk (by kernel_rfl)
    [(some 15, ⟨[(1, (vI k))], [], (vI k), [], []⟩),
    (some 16, ⟨[(2, (.ref 1002 0))], [(1002, (.box [(vS p.Name), (.p (.sl false 3 (p.Steps.map D.PolicyStep.cells))), (vI p.Repeat)]))], (.ref 1002 1), [], []⟩),
    (some 17, ⟨[(16, (.ref 1002 1))], [(1002, (.box [(vS p.Name), (.p (.sl false 3 (p.Steps.map D.PolicyStep.cells))), (vI p.Repeat)]))], (.p (.sl false 3 (p.Steps.map D.PolicyStep.cells))), [], []⟩),
    (some 18, ⟨[(17, (.p (.sl false 3 (p.Steps.map D.PolicyStep.cells))))], [], (vI ((p.Steps.length : Nat) : Int)), [], []⟩),
    (some 19, ⟨[(15, (vI k)), (18, (vI ((p.Steps.length : Nat) : Int)))], [], (vI (k % ((p.Steps.length : Nat) : Int))), [], []⟩),
    (some 20, ⟨[(1, (vI k))], [], (vI k), [], []⟩),
    (some 21, ⟨[(2, (.ref 1002 0))], [(1002, (.box [(vS p.Name), (.p (.sl false 3 (p.Steps.map D.PolicyStep.cells))), (vI p.Repeat)]))], (.ref 1002 1), [], []⟩),
    (some 22, ⟨[(21, (.ref 1002 1))], [(1002, (.box [(vS p.Name), (.p (.sl false 3 (p.Steps.map D.PolicyStep.cells))), (vI p.Repeat)]))], (.p (.sl false 3 (p.Steps.map D.PolicyStep.cells))), [], []⟩),
    (some 23, ⟨[(22, (.p (.sl false 3 (p.Steps.map D.PolicyStep.cells))))], [], (vI ((p.Steps.length : Nat) : Int)), [], []⟩),
    (some 24, ⟨[(20, (vI k)), (23, (vI ((p.Steps.length : Nat) : Int)))], [], (vI (k / ((p.Steps.length : Nat) : Int))), [], []⟩),
    (some 4, ⟨[(19, (vI (k % ((p.Steps.length : Nat) : Int))))], [], (vI (k % ((p.Steps.length : Nat) : Int))), [], []⟩),
    (some 5, ⟨[(24, (vI (k / ((p.Steps.length : Nat) : Int))))], [], (vI (k / ((p.Steps.length : Nat) : Int))), [], []⟩),
    (some 6, ⟨[], [], (vB true), [], []⟩)]
    ⟨StepOK.p rfl rfl rfl (OpOK.move rfl rfl),
    StepOK.p rfl rfl rfl (OpOK.fieldRef (fo := 1) rfl rfl (by kernel_rfl) rfl),
    StepOK.p rfl rfl rfl (OpOK.loadBox rfl rfl (by kernel_rfl) rfl),
    StepOK.p rfl rfl rfl (OpOK.lenP (e := 44) rfl rfl (by kernel_rfl) rfl (by rw [List.length_map])),
    StepOK.p rfl rfl rfl (OpOK.rem rfl rfl rfl (by omega) (Int.tmod_eq_emod_of_nonneg (by omega))),
    StepOK.p rfl rfl rfl (OpOK.move rfl rfl),
    StepOK.p rfl rfl rfl (OpOK.fieldRef (fo := 1) rfl rfl (by kernel_rfl) rfl),
    StepOK.p rfl rfl rfl (OpOK.loadBox rfl rfl (by kernel_rfl) rfl),
    StepOK.p rfl rfl rfl (OpOK.lenP (e := 44) rfl rfl (by kernel_rfl) rfl (by rw [List.length_map])),
    StepOK.p rfl rfl rfl (OpOK.quo rfl rfl rfl (by omega) (IntWalk.i64_quo _ _ ⟨by omega, by omega, by omega⟩)),
    StepOK.p rfl rfl rfl (OpOK.assign rfl rfl),
    StepOK.p rfl rfl rfl (OpOK.assign rfl rfl),
    StepOK.p rfl rfl rfl (OpOK.assign rfl rfl), rfl⟩
    [(4, (vI (k % ((p.Steps.length : Nat) : Int)))), (5, (vI (k / ((p.Steps.length : Nat) : Int)))), (6, (vB true))]
    []
    (by kernel_rfl) (by kernel_rfl) ?_
   refine AWp.ret ?_
   refine fin_of (.inr rfl) (v := (.tup [(vI (k % ((p.Steps.length : Nat) : Int))), (vI (k / ((p.Steps.length : Nat) : Int))), (vB true)])) (Res.many (by kernel_rfl) (Res1s.cons (Res1.tmp rfl) (Res1s.cons (Res1.tmp rfl) (Res1s.cons (Res1.tmp rfl) Res1s.nil)))) (h' := []) rfl rfl ?_
   exact ⟨by rw [part_yes (p := p) (k := k) (by omega)], rfl⟩

theorem ref_Waits (p : D.Policy) (hl : p.Steps.length ≤ 1000000) :
    SpecIs Try.prog 27 [(.agg [(vS p.Name), (.p (.sl false 3 (p.Steps.map D.PolicyStep.cells))), (vI p.Repeat)])] [] (vB (waitsOK p)) [] := by
 refine Spec.intro Try.func27 rfl (by kernel_rfl) ?_
 intro Γ hGn hGk
 replace hGn : Γ.n = 19 := hGn
 replace hGk : Γ.names = [] := hGk
 refine AWp.weaken (mk [(0, (.agg [(vS p.Name), (.p (.sl false 3 (p.Steps.map D.PolicyStep.cells))), (vI p.Repeat)]))] []) (Weak.sub' hGk (by kernel_rfl)) ?_
 refine AWp.s_region hGn hGk 
  [(some 1, ⟨[(0, (.agg [(vS p.Name), (.p (.sl false 3 (p.Steps.map D.PolicyStep.cells))), (vI p.Repeat)]))], [], (.ref 1001 0), [(1001, (.box [(vS p.Name), (.p (.sl false 3 (p.Steps.map D.PolicyStep.cells))), (vI p.Repeat)]))], [1001]⟩),
  (some 2, ⟨[], [], (vB false), [], []⟩)]
  ⟨StepOK.p rfl rfl rfl (OpOK.box rfl rfl rfl),
  StepOK.p rfl rfl rfl (OpOK.assign rfl rfl), rfl⟩
  [(1, (.ref 1001 0))]
  [(1001, (.box [(vS p.Name), (.p (.sl false 3 (p.Steps.map D.PolicyStep.cells))), (vI p.Repeat)]))]
  (by kernel_rfl) ?_
 refine AWp.seq ?_
 refine AWp.s_region hGn hGk 
  [(some 3, ⟨[], [], (vI 0), [], []⟩)]
  ⟨StepOK.p rfl rfl rfl (OpOK.assign rfl rfl), rfl⟩
  [(1, (.ref 1001 0)), (3, (vI 0))]
  [(1001, (.box [(vS p.Name), (.p (.sl false 3 (p.Steps.map D.PolicyStep.cells))), (vI p.Repeat)]))]
  (by kernel_rfl) ?_
 refine AWp.block ?_
 refine AWp.loop (fun m s => ∃ i, s = (mk [(1, (.ref 1001 0)), (3, (vI ((i : Nat) : Int)))] [(1001, (.box [(vS p.Name), (.p (.sl false 3 (p.Steps.map D.PolicyStep.cells))), (vI p.Repeat)]))]) ∧ (i ≤ p.Steps.length) ∧ (∀ j, j < i → inB (nth p.Steps j).Wait 0 86400 = true) ∧ m = (p.Steps.length - i))
  ⟨_, 0, rfl, (by omega), (by intro j hj; omega), rfl⟩ ?_
 rintro mm1 s ⟨i, rfl, hi, hw, hmm1⟩
 refine AWp.seq ?_
 refine AWp.s_region hGn hGk 
  [(some 4, ⟨[(3, (vI ((i : Nat) : Int)))], [], (vI ((i : Nat) : Int)), [], []⟩),
  (some 5, ⟨[(1, (.ref 1001 0))], [(1001, (.box [(vS p.Name), (.p (.sl false 3 (p.Steps.map D.PolicyStep.cells))), (vI p.Repeat)]))], (.ref 1001 1), [], []⟩),
  (some 6, ⟨[(5, (.ref 1001 1))], [(1001, (.box [(vS p.Name), (.p (.sl false 3 (p.Steps.map D.PolicyStep.cells))), (vI p.Repeat)]))], (.p (.sl false 3 (p.Steps.map D.PolicyStep.cells))), [], []⟩),
  (some 7, ⟨[(6, (.p (.sl false 3 (p.Steps.map D.PolicyStep.cells))))], [], (vI ((p.Steps.length : Nat) : Int)), [], []⟩),
  (some 8, ⟨[(4, (vI ((i : Nat) : Int))), (7, (vI ((p.Steps.length : Nat) : Int)))], [], (vB (decide (((i : Nat) : Int) < ((p.Steps.length : Nat) : Int)))), [], []⟩)]
  ⟨StepOK.p rfl rfl rfl (OpOK.move rfl rfl),
  StepOK.p rfl rfl rfl (OpOK.fieldRef (fo := 1) rfl rfl (by kernel_rfl) rfl),
  StepOK.p rfl rfl rfl (OpOK.loadBox rfl rfl (by kernel_rfl) rfl),
  StepOK.p rfl rfl rfl (OpOK.lenP (e := 44) rfl rfl (by kernel_rfl) rfl (by rw [List.length_map])),
  StepOK.p rfl rfl rfl (OpOK.lss rfl rfl rfl rfl), rfl⟩
  [(1, (.ref 1001 0)), (3, (vI ((i : Nat) : Int))), (8, (vB (decide (((i : Nat) : Int) < ((p.Steps.length : Nat) : Int)))))]
  [(1001, (.box [(vS p.Name), (.p (.sl false 3 (p.Steps.map D.PolicyStep.cells))), (vI p.Repeat)]))]
  (by kernel_rfl) ?_
 refine AWp.cond (decide (((i : Nat) : Int) < ((p.Steps.length : Nat) : Int))) rfl (fun hc2 => ?_) (fun hc2 => ?_)
 ·skip
  replace hc2 := of_decide_eq_true hc2
  refine AWp.skip ?_
  refine nextQ_normal ?_
  refine AWp.seq ?_
  refine AWp.block ?_
  refine AWp.s_region hGn hGk 
   [(some 11, ⟨[(1, (.ref 1001 0))], [(1001, (.box [(vS p.Name), (.p (.sl false 3 (p.Steps.map D.PolicyStep.cells))), (vI p.Repeat)]))], (.ref 1001 1), [], []⟩),
   (some 12, ⟨[(11, (.ref 1001 1))], [(1001, (.box [(vS p.Name), (.p (.sl false 3 (p.Steps.map D.PolicyStep.cells))), (vI p.Repeat)]))], (.p (.sl false 3 (p.Steps.map D.PolicyStep.cells))), [], []⟩),
   (some 13, ⟨[(3, (vI ((i : Nat) : Int)))], [], (vI ((i : Nat) : Int)), [], []⟩),
   (some 14, ⟨[(12, (.p (.sl false 3 (p.Steps.map D.PolicyStep.cells)))), (13, (vI ((i : Nat) : Int)))], [], (.eptr [(pI ((nth p.Steps i).Wait)), (pB ((nth p.Steps i).Urgent)), (.sl false 2 (((nth p.Steps i).Targets).map D.Target.cells))]), [], []⟩),
   (some 15, ⟨[(14, (.eptr [(pI ((nth p.Steps i).Wait)), (pB ((nth p.Steps i).Urgent)), (.sl false 2 (((nth p.Steps i).Targets).map D.Target.cells))]))], [], (.eptr [(pI ((nth p.Steps i).Wait)), (pB ((nth p.Steps i).Urgent)), (.sl false 2 (((nth p.Steps i).Targets).map D.Target.cells))]), [], []⟩),
   (some 16, ⟨[(15, (.eptr [(pI ((nth p.Steps i).Wait)), (pB ((nth p.Steps i).Urgent)), (.sl false 2 (((nth p.Steps i).Targets).map D.Target.cells))]))], [], (vI ((nth p.Steps i).Wait)), [], []⟩),
   (some 17, ⟨[(16, (vI ((nth p.Steps i).Wait)))], [], (vB (inB ((nth p.Steps i).Wait) 0 86400)), [], []⟩),
   (some 18, ⟨[(17, (vB (inB ((nth p.Steps i).Wait) 0 86400)))], [], (vB (!(inB ((nth p.Steps i).Wait) 0 86400))), [], []⟩)]
   ⟨StepOK.p rfl rfl rfl (OpOK.fieldRef (fo := 1) rfl rfl (by kernel_rfl) rfl),
   StepOK.p rfl rfl rfl (OpOK.loadBox rfl rfl (by kernel_rfl) rfl),
   StepOK.p rfl rfl rfl (OpOK.move rfl rfl),
   StepOK.p rfl rfl rfl (OpOK.indexP (e := 44) rfl (by kernel_rfl) (by kernel_rfl) rfl rfl rfl (map_nth (by omega))),
   StepOK.p rfl rfl rfl (OpOK.fieldPtr (fo := 0) rfl rfl (by kernel_rfl) rfl),
   StepOK.p rfl rfl rfl (OpOK.loadPtr rfl rfl (by kernel_rfl) rfl),
   StepOK.p rfl rfl rfl (OpOK.call rfl (by kernel_rfl) rfl (ref_In ((nth p.Steps i).Wait) 0 86400) (by kernel_rfl)),
   StepOK.p rfl rfl rfl (OpOK.not rfl rfl rfl), rfl⟩
   [(1, (.ref 1001 0)), (3, (vI ((i : Nat) : Int))), (18, (vB (!(inB ((nth p.Steps i).Wait) 0 86400))))]
   [(1001, (.box [(vS p.Name), (.p (.sl false 3 (p.Steps.map D.PolicyStep.cells))), (vI p.Repeat)]))]
   (by kernel_rfl) ?_
  refine AWp.cond (!(inB ((nth p.Steps i).Wait) 0 86400)) rfl (fun hc3 => ?_) (fun hc3 => ?_)
  ·skip
   replace hc3 : inB ((nth p.Steps i).Wait) 0 86400 = false := by simpa using hc3
   have ha4 := inB_false hc3
   refine AWp.s_region hGn hGk 
    [(some 2, ⟨[], [], (vB false), [], []⟩)]
    ⟨StepOK.p rfl rfl rfl (OpOK.assign rfl rfl), rfl⟩
    [(2, (vB false))]
    []
    (by kernel_rfl) ?_
   refine AWp.ret ?_
   refine blockQ_ret ?_
   refine nextQ_ret ?_
   refine nextQ_ret ?_
   refine blockQ_ret ?_
   refine nextQ_ret ?_
   refine fin_of (.inr rfl) (v := (vB false)) (Res.tmp rfl rfl) (h' := []) rfl rfl ?_
   exact ⟨by rw [waitsOK_no p i (by omega) (by assumption)], rfl⟩
  ·skip
   replace hc3 : inB ((nth p.Steps i).Wait) 0 86400 = true := by simpa using hc3
   have ha5 := inB_spec hc3
   refine AWp.skip ?_
   refine blockQ_normal ?_
   refine nextQ_normal ?_
   refine AWp.region' hGn hGk 
    [(some 9, ⟨[(3, (vI ((i : Nat) : Int)))], [], (vI ((i : Nat) : Int)), [], []⟩),
    (some 10, ⟨[(9, (vI ((i : Nat) : Int)))], [], (vI ((i + 1 : Nat) : Int)), [], []⟩),
    (some 3, ⟨[(10, (vI ((i + 1 : Nat) : Int)))], [], (vI ((i + 1 : Nat) : Int)), [], []⟩)]
    ⟨StepOK.p rfl rfl rfl (OpOK.move rfl rfl),
    StepOK.p rfl rfl rfl (OpOK.add rfl rfl rfl (by rw [IntWalk.i64_in _ ⟨by omega, by omega⟩]; omega)),
    StepOK.p rfl rfl rfl (OpOK.assign rfl rfl), rfl⟩
    [(1, (.ref 1001 0)), (3, (vI ((i + 1 : Nat) : Int)))]
    [(1001, (.box [(vS p.Name), (.p (.sl false 3 (p.Steps.map D.PolicyStep.cells))), (vI p.Repeat)]))]
    (by kernel_rfl) ?_
   refine nextQ_normal ⟨_, ?_, (i + 1), rfl, (by omega), (fun j hj => by rcases Nat.lt_or_ge j i with h | h; exact hw j h; rw [show j = i from by omega]; assumption), rfl⟩
   · omega
 ·skip
  replace hc2 := of_decide_eq_false hc2
  refine AWp.weaken (mk [] []) (Weak.sub' hGk (by kernel_rfl)) ?_
  refine AWp.exit ?_
  refine nextQ_exit ?_
  refine nextQ_exit ?_
  refine blockQ_exit ?_
  refine nextQ_normal ?_
  refine AWp.s_region hGn hGk 
   [(some 2, ⟨[], [], (vB true), [], []⟩)]
   ⟨StepOK.p rfl rfl rfl (OpOK.assign rfl rfl), rfl⟩
   [(2, (vB true))]
   []
   (by kernel_rfl) ?_
  refine AWp.ret ?_
  refine fin_of (.inr rfl) (v := (vB true)) (Res.tmp rfl rfl) (h' := []) rfl rfl ?_
  exact ⟨by rw [waitsOK_of (fun j hj => hw j (by omega))], rfl⟩

theorem ref_Offset (p : D.Policy) (k : Int) (hl : p.Steps.length ≤ 1000000) :
    SpecIs Try.prog 19 [(.agg [(vS p.Name), (.p (.sl false 3 (p.Steps.map D.PolicyStep.cells))), (vI p.Repeat)]), (vI k)] [] (.tup [(vI ((offset p k).1)), (vB ((offset p k).2))]) [] := by
 refine Spec.intro Try.func19 rfl (by kernel_rfl) ?_
 intro Γ hGn hGk
 replace hGn : Γ.n = 39 := hGn
 replace hGk : Γ.names = [] := hGk
 have hcl0 := count_le p
 refine AWp.weaken (mk [(0, (.agg [(vS p.Name), (.p (.sl false 3 (p.Steps.map D.PolicyStep.cells))), (vI p.Repeat)])), (1, (vI k))] []) (Weak.sub' hGk (by kernel_rfl)) ?_
 refine AWp.s_region hGn hGk 
  [(some 2, ⟨[(0, (.agg [(vS p.Name), (.p (.sl false 3 (p.Steps.map D.PolicyStep.cells))), (vI p.Repeat)]))], [], (.ref 1002 0), [(1002, (.box [(vS p.Name), (.p (.sl false 3 (p.Steps.map D.PolicyStep.cells))), (vI p.Repeat)]))], [1002]⟩),
  (some 4, ⟨[], [], (vI 0), [], []⟩),
  (some 5, ⟨[], [], (vB false), [], []⟩)]
  ⟨StepOK.p rfl rfl rfl (OpOK.box rfl rfl rfl),
  StepOK.p rfl rfl rfl (OpOK.assign rfl rfl),
  StepOK.p rfl rfl rfl (OpOK.assign rfl rfl), rfl⟩
  [(1, (vI k)), (2, (.ref 1002 0))]
  [(1002, (.box [(vS p.Name), (.p (.sl false 3 (p.Steps.map D.PolicyStep.cells))), (vI p.Repeat)]))]
  (by kernel_rfl) ?_
 refine AWp.seq ?_
 by_cases hs1 : k < (0 : Int)
 ·skip
  refine AWp.s_region hGn hGk 
   [(some 8, ⟨[(1, (vI k))], [], (vI k), [], []⟩),
   (some 9, ⟨[(8, (vI k))], [], (vB true), [], []⟩),
   (some 10, ⟨[(9, (vB true))], [], (vB true), [], []⟩),
   (some 11, ⟨[(10, (vB true))], [], (.tup []), [], []⟩),
   (some 12, ⟨[(10, (vB true))], [], (.tup []), [], []⟩),
   (some 13, ⟨[(10, (vB true))], [], (.tup []), [], []⟩),
   (some 14, ⟨[(10, (vB true))], [], (.tup []), [], []⟩),
   (some 15, ⟨[(10, (vB true))], [], (vB true), [], []⟩),
   (some 16, ⟨[(15, (vB true))], [], (vB true), [], []⟩),
   (some 17, ⟨[(16, (vB true))], [], (.tup []), [], []⟩),
   (some 18, ⟨[(16, (vB true))], [], (.tup []), [], []⟩),
   (some 19, ⟨[(16, (vB true))], [], (.tup []), [], []⟩),
   (some 20, ⟨[(16, (vB true))], [], (vB true), [], []⟩)]
   ⟨StepOK.p rfl rfl rfl (OpOK.move rfl rfl),
   StepOK.p rfl rfl rfl (OpOK.lss rfl rfl rfl (decide_eq_true hs1)),
   StepOK.p rfl rfl rfl (OpOK.move rfl rfl),
   StepOK.k rfl rfl rfl rfl rfl rfl,
   StepOK.k rfl rfl rfl rfl rfl rfl,
   StepOK.k rfl rfl rfl rfl rfl rfl,
   StepOK.k rfl rfl rfl rfl rfl rfl,
   StepOK.p rfl rfl rfl (OpOK.pickT rfl rfl rfl),
   StepOK.p rfl rfl rfl (OpOK.move rfl rfl),
   StepOK.k rfl rfl rfl rfl rfl rfl,
   StepOK.k rfl rfl rfl rfl rfl rfl,
   StepOK.k rfl rfl rfl rfl rfl rfl,
   StepOK.p rfl rfl rfl (OpOK.pickT rfl rfl rfl), rfl⟩
   [(1, (vI k)), (2, (.ref 1002 0)), (20, (vB true))]
   [(1002, (.box [(vS p.Name), (.p (.sl false 3 (p.Steps.map D.PolicyStep.cells))), (vI p.Repeat)]))]
   (by kernel_rfl) ?_
  refine AWp.cond_true rfl ?_
  refine AWp.s_region hGn hGk 
   [(some 4, ⟨[], [], (vI 0), [], []⟩),
   (some 5, ⟨[], [], (vB false), [], []⟩)]
   ⟨StepOK.p rfl rfl rfl (OpOK.assign rfl rfl),
   StepOK.p rfl rfl rfl (OpOK.assign rfl rfl), rfl⟩
   [(4, (vI 0)), (5, (vB false))]
   []
   (by kernel_rfl) ?_
  refine AWp.ret ?_
  refine nextQ_ret ?_
  refine fin_of (.inr rfl) (v := (.tup [(vI 0), (vB false)])) (Res.many (by kernel_rfl) (Res1s.cons (Res1.tmp rfl) (Res1s.cons (Res1.tmp rfl) Res1s.nil))) (h' := []) rfl rfl ?_
  exact ⟨by rw [offset_no (p := p) (k := k) (by first | (left; omega) | (right; assumption))], rfl⟩
 ·skip
  by_cases hs2 : (count p) < k
  ·skip
   refine AWp.s_region hGn hGk 
    [(some 8, ⟨[(1, (vI k))], [], (vI k), [], []⟩),
    (some 9, ⟨[(8, (vI k))], [], (vB false), [], []⟩),
    (some 10, ⟨[(9, (vB false))], [], (vB false), [], []⟩),
    (some 11, ⟨[(1, (vI k)), (10, (vB false))], [], (vI k), [], []⟩),
    (some 12, ⟨[(2, (.ref 1002 0)), (10, (vB false))], [(1002, (.box [(vS p.Name), (.p (.sl false 3 (p.Steps.map D.PolicyStep.cells))), (vI p.Repeat)]))], (.agg [(vS p.Name), (.p (.sl false 3 (p.Steps.map D.PolicyStep.cells))), (vI p.Repeat)]), [], []⟩),
    (some 13, ⟨[(12, (.agg [(vS p.Name), (.p (.sl false 3 (p.Steps.map D.PolicyStep.cells))), (vI p.Repeat)])), (10, (vB false))], [], (vI (count p)), [], []⟩),
    (some 14, ⟨[(11, (vI k)), (13, (vI (count p))), (10, (vB false))], [], (vB true), [], []⟩),
    (some 15, ⟨[(10, (vB false)), (14, (vB true))], [], (vB true), [], []⟩),
    (some 16, ⟨[(15, (vB true))], [], (vB true), [], []⟩),
    (some 17, ⟨[(16, (vB true))], [], (.tup []), [], []⟩),
    (some 18, ⟨[(16, (vB true))], [], (.tup []), [], []⟩),
    (some 19, ⟨[(16, (vB true))], [], (.tup []), [], []⟩),
    (some 20, ⟨[(16, (vB true))], [], (vB true), [], []⟩)]
    ⟨StepOK.p rfl rfl rfl (OpOK.move rfl rfl),
    StepOK.p rfl rfl rfl (OpOK.lss rfl rfl rfl (decide_eq_false hs1)),
    StepOK.p rfl rfl rfl (OpOK.move rfl rfl),
    StepOK.g rfl rfl rfl rfl rfl (by simp) (OpOK.move rfl rfl),
    StepOK.g rfl rfl rfl rfl rfl (by simp) (OpOK.loadBoxAgg (z := 3) rfl rfl (by kernel_rfl) (by kernel_rfl) rfl rfl),
    StepOK.g rfl rfl rfl rfl rfl (by simp) (OpOK.call rfl (by kernel_rfl) rfl (ref_Count p (by first | omega | decide)) (by kernel_rfl)),
    StepOK.g rfl rfl rfl rfl rfl (by simp) (OpOK.gtr rfl rfl rfl (decide_eq_true hs2)),
    StepOK.p rfl rfl rfl (OpOK.pickF rfl rfl rfl),
    StepOK.p rfl rfl rfl (OpOK.move rfl rfl),
    StepOK.k rfl rfl rfl rfl rfl rfl,
    StepOK.k rfl rfl rfl rfl rfl rfl,
    StepOK.k rfl rfl rfl rfl rfl rfl,
    StepOK.p rfl rfl rfl (OpOK.pickT rfl rfl rfl), rfl⟩
    [(1, (vI k)), (2, (.ref 1002 0)), (20, (vB true))]
    [(1002, (.box [(vS p.Name), (.p (.sl false 3 (p.Steps.map D.PolicyStep.cells))), (vI p.Repeat)]))]
    (by kernel_rfl) ?_
   refine AWp.cond_true rfl ?_
   refine AWp.s_region hGn hGk 
    [(some 4, ⟨[], [], (vI 0), [], []⟩),
    (some 5, ⟨[], [], (vB false), [], []⟩)]
    ⟨StepOK.p rfl rfl rfl (OpOK.assign rfl rfl),
    StepOK.p rfl rfl rfl (OpOK.assign rfl rfl), rfl⟩
    [(4, (vI 0)), (5, (vB false))]
    []
    (by kernel_rfl) ?_
   refine AWp.ret ?_
   refine nextQ_ret ?_
   refine fin_of (.inr rfl) (v := (.tup [(vI 0), (vB false)])) (Res.many (by kernel_rfl) (Res1s.cons (Res1.tmp rfl) (Res1s.cons (Res1.tmp rfl) Res1s.nil))) (h' := []) rfl rfl ?_
   exact ⟨by rw [offset_no (p := p) (k := k) (by first | (left; omega) | (right; assumption))], rfl⟩
  ·skip
   refine AWp.s_region hGn hGk 
    [(some 8, ⟨[(1, (vI k))], [], (vI k), [], []⟩),
    (some 9, ⟨[(8, (vI k))], [], (vB false), [], []⟩),
    (some 10, ⟨[(9, (vB false))], [], (vB false), [], []⟩),
    (some 11, ⟨[(1, (vI k)), (10, (vB false))], [], (vI k), [], []⟩),
    (some 12, ⟨[(2, (.ref 1002 0)), (10, (vB false))], [(1002, (.box [(vS p.Name), (.p (.sl false 3 (p.Steps.map D.PolicyStep.cells))), (vI p.Repeat)]))], (.agg [(vS p.Name), (.p (.sl false 3 (p.Steps.map D.PolicyStep.cells))), (vI p.Repeat)]), [], []⟩),
    (some 13, ⟨[(12, (.agg [(vS p.Name), (.p (.sl false 3 (p.Steps.map D.PolicyStep.cells))), (vI p.Repeat)])), (10, (vB false))], [], (vI (count p)), [], []⟩),
    (some 14, ⟨[(11, (vI k)), (13, (vI (count p))), (10, (vB false))], [], (vB false), [], []⟩),
    (some 15, ⟨[(10, (vB false)), (14, (vB false))], [], (vB false), [], []⟩),
    (some 16, ⟨[(15, (vB false))], [], (vB false), [], []⟩),
    (some 17, ⟨[(2, (.ref 1002 0)), (16, (vB false))], [(1002, (.box [(vS p.Name), (.p (.sl false 3 (p.Steps.map D.PolicyStep.cells))), (vI p.Repeat)]))], (.agg [(vS p.Name), (.p (.sl false 3 (p.Steps.map D.PolicyStep.cells))), (vI p.Repeat)]), [], []⟩),
    (some 18, ⟨[(17, (.agg [(vS p.Name), (.p (.sl false 3 (p.Steps.map D.PolicyStep.cells))), (vI p.Repeat)])), (16, (vB false))], [], (vB (waitsOK p)), [], []⟩),
    (some 19, ⟨[(18, (vB (waitsOK p))), (16, (vB false))], [], (vB (!(waitsOK p))), [], []⟩),
    (some 20, ⟨[(16, (vB false)), (19, (vB (!(waitsOK p))))], [], (vB (!(waitsOK p))), [], []⟩)]
    ⟨StepOK.p rfl rfl rfl (OpOK.move rfl rfl),
    StepOK.p rfl rfl rfl (OpOK.lss rfl rfl rfl (decide_eq_false hs1)),
    StepOK.p rfl rfl rfl (OpOK.move rfl rfl),
    StepOK.g rfl rfl rfl rfl rfl (by simp) (OpOK.move rfl rfl),
    StepOK.g rfl rfl rfl rfl rfl (by simp) (OpOK.loadBoxAgg (z := 3) rfl rfl (by kernel_rfl) (by kernel_rfl) rfl rfl),
    StepOK.g rfl rfl rfl rfl rfl (by simp) (OpOK.call rfl (by kernel_rfl) rfl (ref_Count p (by first | omega | decide)) (by kernel_rfl)),
    StepOK.g rfl rfl rfl rfl rfl (by simp) (OpOK.gtr rfl rfl rfl (decide_eq_false hs2)),
    StepOK.p rfl rfl rfl (OpOK.pickF rfl rfl rfl),
    StepOK.p rfl rfl rfl (OpOK.move rfl rfl),
    StepOK.g rfl rfl rfl rfl rfl (by simp) (OpOK.loadBoxAgg (z := 3) rfl rfl (by kernel_rfl) (by kernel_rfl) rfl rfl),
    StepOK.g rfl rfl rfl rfl rfl (by simp) (OpOK.call rfl (by kernel_rfl) rfl (ref_Waits p (by omega)) (by kernel_rfl)),
    StepOK.g rfl rfl rfl rfl rfl (by simp) (OpOK.not rfl rfl rfl),
    StepOK.p rfl rfl rfl (OpOK.pickF rfl rfl rfl), rfl⟩
    [(1, (vI k)), (2, (.ref 1002 0)), (20, (vB (!(waitsOK p))))]
    [(1002, (.box [(vS p.Name), (.p (.sl false 3 (p.Steps.map D.PolicyStep.cells))), (vI p.Repeat)]))]
    (by kernel_rfl) ?_
   refine AWp.cond (!(waitsOK p)) rfl (fun hc3 => ?_) (fun hc3 => ?_)
   ·skip
    replace hc3 : waitsOK p = false := by simpa using hc3
    refine AWp.s_region hGn hGk 
     [(some 4, ⟨[], [], (vI 0), [], []⟩),
     (some 5, ⟨[], [], (vB false), [], []⟩)]
     ⟨StepOK.p rfl rfl rfl (OpOK.assign rfl rfl),
     StepOK.p rfl rfl rfl (OpOK.assign rfl rfl), rfl⟩
     [(4, (vI 0)), (5, (vB false))]
     []
     (by kernel_rfl) ?_
    refine AWp.ret ?_
    refine nextQ_ret ?_
    refine fin_of (.inr rfl) (v := (.tup [(vI 0), (vB false)])) (Res.many (by kernel_rfl) (Res1s.cons (Res1.tmp rfl) (Res1s.cons (Res1.tmp rfl) Res1s.nil))) (h' := []) rfl rfl ?_
    exact ⟨by rw [offset_no (p := p) (k := k) (by first | (left; omega) | (right; assumption))], rfl⟩
   ·skip
    replace hc3 : waitsOK p = true := by simpa using hc3
    refine AWp.skip ?_
    refine nextQ_normal ?_
    refine AWp.s_region hGn hGk 
     [(some 6, ⟨[], [], (vI 0), [], []⟩)]
     ⟨StepOK.p rfl rfl rfl (OpOK.assign rfl rfl), rfl⟩
     [(1, (vI k)), (2, (.ref 1002 0)), (6, (vI 0))]
     [(1002, (.box [(vS p.Name), (.p (.sl false 3 (p.Steps.map D.PolicyStep.cells))), (vI p.Repeat)]))]
     (by kernel_rfl) ?_
    refine AWp.seq ?_
    refine AWp.s_region hGn hGk 
     [(some 7, ⟨[], [], (vI 0), [], []⟩)]
     ⟨StepOK.p rfl rfl rfl (OpOK.assign rfl rfl), rfl⟩
     [(1, (vI k)), (2, (.ref 1002 0)), (6, (vI 0)), (7, (vI 0))]
     [(1002, (.box [(vS p.Name), (.p (.sl false 3 (p.Steps.map D.PolicyStep.cells))), (vI p.Repeat)]))]
     (by kernel_rfl) ?_
    refine AWp.block ?_
    refine AWp.loop (fun m s => ∃ i, s = (mk [(1, (vI k)), (2, (.ref 1002 0)), (6, (vI (offW p i))), (7, (vI ((i : Nat) : Int)))] [(1002, (.box [(vS p.Name), (.p (.sl false 3 (p.Steps.map D.PolicyStep.cells))), (vI p.Repeat)]))]) ∧ ((i : Int) ≤ k) ∧ m = (k.toNat - i))
     ⟨_, 0, rfl, (by omega), rfl⟩ ?_
    rintro mm4 s ⟨i, rfl, hi, hmm4⟩
    have hcl := count_le p
    refine AWp.seq ?_
    refine AWp.s_region hGn hGk 
     [(some 21, ⟨[(7, (vI ((i : Nat) : Int)))], [], (vI ((i : Nat) : Int)), [], []⟩),
     (some 22, ⟨[(1, (vI k))], [], (vI k), [], []⟩),
     (some 23, ⟨[(21, (vI ((i : Nat) : Int))), (22, (vI k))], [], (vB (decide (((i : Nat) : Int) < k))), [], []⟩)]
     ⟨StepOK.p rfl rfl rfl (OpOK.move rfl rfl),
     StepOK.p rfl rfl rfl (OpOK.move rfl rfl),
     StepOK.p rfl rfl rfl (OpOK.lss rfl rfl rfl rfl), rfl⟩
     [(1, (vI k)), (2, (.ref 1002 0)), (6, (vI (offW p i))), (7, (vI ((i : Nat) : Int))), (23, (vB (decide (((i : Nat) : Int) < k))))]
     [(1002, (.box [(vS p.Name), (.p (.sl false 3 (p.Steps.map D.PolicyStep.cells))), (vI p.Repeat)]))]
     (by kernel_rfl) ?_
    refine AWp.cond (decide (((i : Nat) : Int) < k)) rfl (fun hc5 => ?_) (fun hc5 => ?_)
    ·skip
     replace hc5 := of_decide_eq_true hc5
     refine AWp.skip ?_
     refine nextQ_normal ?_
     refine AWp.seq ?_
     refine AWp.block ?_
     have hl0 : 0 < p.Steps.length := count_pos (p := p) (k := i) (by omega)
     have hm0 : i % p.Steps.length < p.Steps.length := Nat.mod_lt _ hl0
     refine AWp.draw' hGn hGk (by kernel_rfl)
      [(some 26, ⟨[(6, (vI (offW p i)))], [], (vI (offW p i)), [], []⟩),
      (some 27, ⟨[(2, (.ref 1002 0))], [(1002, (.box [(vS p.Name), (.p (.sl false 3 (p.Steps.map D.PolicyStep.cells))), (vI p.Repeat)]))], (.ref 1002 1), [], []⟩),
      (some 28, ⟨[(27, (.ref 1002 1))], [(1002, (.box [(vS p.Name), (.p (.sl false 3 (p.Steps.map D.PolicyStep.cells))), (vI p.Repeat)]))], (.p (.sl false 3 (p.Steps.map D.PolicyStep.cells))), [], []⟩),
      (some 29, ⟨[(7, (vI ((i : Nat) : Int)))], [], (vI ((i : Nat) : Int)), [], []⟩),
      (some 30, ⟨[(2, (.ref 1002 0))], [(1002, (.box [(vS p.Name), (.p (.sl false 3 (p.Steps.map D.PolicyStep.cells))), (vI p.Repeat)]))], (.ref 1002 1), [], []⟩),
      (some 31, ⟨[(30, (.ref 1002 1))], [(1002, (.box [(vS p.Name), (.p (.sl false 3 (p.Steps.map D.PolicyStep.cells))), (vI p.Repeat)]))], (.p (.sl false 3 (p.Steps.map D.PolicyStep.cells))), [], []⟩),
      (some 32, ⟨[(31, (.p (.sl false 3 (p.Steps.map D.PolicyStep.cells))))], [], (vI ((p.Steps.length : Nat) : Int)), [], []⟩),
      (some 33, ⟨[(29, (vI ((i : Nat) : Int))), (32, (vI ((p.Steps.length : Nat) : Int)))], [], (vI ((i % p.Steps.length : Nat) : Int)), [], []⟩),
      (some 34, ⟨[(28, (.p (.sl false 3 (p.Steps.map D.PolicyStep.cells)))), (33, (vI ((i % p.Steps.length : Nat) : Int)))], [], (.eptr [(pI ((nth p.Steps (i % p.Steps.length)).Wait)), (pB ((nth p.Steps (i % p.Steps.length)).Urgent)), (.sl false 2 (((nth p.Steps (i % p.Steps.length)).Targets).map D.Target.cells))]), [], []⟩),
      (some 35, ⟨[(34, (.eptr [(pI ((nth p.Steps (i % p.Steps.length)).Wait)), (pB ((nth p.Steps (i % p.Steps.length)).Urgent)), (.sl false 2 (((nth p.Steps (i % p.Steps.length)).Targets).map D.Target.cells))]))], [], (.eptr [(pI ((nth p.Steps (i % p.Steps.length)).Wait)), (pB ((nth p.Steps (i % p.Steps.length)).Urgent)), (.sl false 2 (((nth p.Steps (i % p.Steps.length)).Targets).map D.Target.cells))]), [], []⟩),
      (some 36, ⟨[(35, (.eptr [(pI ((nth p.Steps (i % p.Steps.length)).Wait)), (pB ((nth p.Steps (i % p.Steps.length)).Urgent)), (.sl false 2 (((nth p.Steps (i % p.Steps.length)).Targets).map D.Target.cells))]))], [], (vI ((nth p.Steps (i % p.Steps.length)).Wait)), [], []⟩),
      (some 37, ⟨[(26, (vI (offW p i))), (36, (vI ((nth p.Steps (i % p.Steps.length)).Wait)))], [], (vI (offW p (i + 1))), [], []⟩),
      (some 6, ⟨[(37, (vI (offW p (i + 1))))], [], (vI (offW p (i + 1))), [], []⟩)]
      ⟨StepOK.p rfl rfl rfl (OpOK.move rfl rfl),
      StepOK.p rfl rfl rfl (OpOK.fieldRef (fo := 1) rfl rfl (by kernel_rfl) rfl),
      StepOK.p rfl rfl rfl (OpOK.loadBox rfl rfl (by kernel_rfl) rfl),
      StepOK.p rfl rfl rfl (OpOK.move rfl rfl),
      StepOK.p rfl rfl rfl (OpOK.fieldRef (fo := 1) rfl rfl (by kernel_rfl) rfl),
      StepOK.p rfl rfl rfl (OpOK.loadBox rfl rfl (by kernel_rfl) rfl),
      StepOK.p rfl rfl rfl (OpOK.lenP (e := 44) rfl rfl (by kernel_rfl) rfl (by rw [List.length_map])),
      StepOK.p rfl rfl rfl (OpOK.rem rfl rfl rfl (by omega) (Int.ofNat_tmod _ _).symm),
      StepOK.p rfl rfl rfl (OpOK.indexP (e := 44) rfl (by kernel_rfl) (by kernel_rfl) rfl rfl rfl (map_nth (by omega))),
      StepOK.p rfl rfl rfl (OpOK.fieldPtr (fo := 0) rfl rfl (by kernel_rfl) rfl),
      StepOK.p rfl rfl rfl (OpOK.loadPtr rfl rfl (by kernel_rfl) rfl),
      StepOK.p rfl rfl rfl (OpOK.add rfl rfl rfl rfl),
      StepOK.p rfl rfl rfl (OpOK.assign rfl rfl), rfl⟩
      [(1, (vI k)), (2, (.ref 1002 0)), (6, (vI (offW p (i + 1)))), (7, (vI ((i : Nat) : Int)))]
      [(1002, (.box [(vS p.Name), (.p (.sl false 3 (p.Steps.map D.PolicyStep.cells))), (vI p.Repeat)]))]
      (by kernel_rfl) (by kernel_rfl) ?_
     refine blockQ_normal ?_
     refine nextQ_normal ?_
     refine AWp.region' hGn hGk 
      [(some 24, ⟨[(7, (vI ((i : Nat) : Int)))], [], (vI ((i : Nat) : Int)), [], []⟩),
      (some 25, ⟨[(24, (vI ((i : Nat) : Int)))], [], (vI ((i + 1 : Nat) : Int)), [], []⟩),
      (some 7, ⟨[(25, (vI ((i + 1 : Nat) : Int)))], [], (vI ((i + 1 : Nat) : Int)), [], []⟩)]
      ⟨StepOK.p rfl rfl rfl (OpOK.move rfl rfl),
      StepOK.p rfl rfl rfl (OpOK.add rfl rfl rfl (by rw [IntWalk.i64_in _ ⟨by omega, by omega⟩]; omega)),
      StepOK.p rfl rfl rfl (OpOK.assign rfl rfl), rfl⟩
      [(1, (vI k)), (2, (.ref 1002 0)), (6, (vI (offW p (i + 1)))), (7, (vI ((i + 1 : Nat) : Int)))]
      [(1002, (.box [(vS p.Name), (.p (.sl false 3 (p.Steps.map D.PolicyStep.cells))), (vI p.Repeat)]))]
      (by kernel_rfl) ?_
     refine nextQ_normal ⟨_, ?_, (i + 1), rfl, (by omega), rfl⟩
     · omega
    ·skip
     replace hc5 := of_decide_eq_false hc5
     refine AWp.weaken (mk [(6, (vI (offW p i)))] []) (Weak.sub' hGk (by kernel_rfl)) ?_
     refine AWp.exit ?_
     refine nextQ_exit ?_
     refine nextQ_exit ?_
     refine blockQ_exit ?_
     refine nextQ_normal ?_
     refine AWp.s_region hGn hGk 
      [(some 38, ⟨[(6, (vI (offW p i)))], [], (vI (offW p i)), [], []⟩),
      (some 4, ⟨[(38, (vI (offW p i)))], [], (vI (offW p i)), [], []⟩),
      (some 5, ⟨[], [], (vB true), [], []⟩)]
      ⟨StepOK.p rfl rfl rfl (OpOK.move rfl rfl),
      StepOK.p rfl rfl rfl (OpOK.assign rfl rfl),
      StepOK.p rfl rfl rfl (OpOK.assign rfl rfl), rfl⟩
      [(4, (vI (offW p i))), (5, (vB true))]
      []
      (by kernel_rfl) ?_
     refine AWp.ret ?_
     refine fin_of (.inr rfl) (v := (.tup [(vI (offW p i)), (vB true)])) (Res.many (by kernel_rfl) (Res1s.cons (Res1.tmp rfl) (Res1s.cons (Res1.tmp rfl) Res1s.nil))) (h' := []) rfl rfl ?_
     exact ⟨by rw [offset_yes (p := p) (k := k) (by omega) (by assumption), show k.toNat = i by omega], rfl⟩

theorem ref_End (p : D.Policy) (hl : p.Steps.length ≤ 1000000) :
    SpecIs Try.prog 21 [(.agg [(vS p.Name), (.p (.sl false 3 (p.Steps.map D.PolicyStep.cells))), (vI p.Repeat)])] [] (vI ((offset p (count p)).1)) [] := by
 refine Spec.intro Try.func21 rfl (by kernel_rfl) ?_
 intro Γ hGn hGk
 replace hGn : Γ.n = 13 := hGn
 replace hGk : Γ.names = [] := hGk
 refine AWp.weaken (mk [(0, (.agg [(vS p.Name), (.p (.sl false 3 (p.Steps.map D.PolicyStep.cells))), (vI p.Repeat)]))] []) (Weak.sub' hGk (by kernel_rfl)) ?_
 refine AWp.s_region hGn hGk 
  [(some 1, ⟨[(0, (.agg [(vS p.Name), (.p (.sl false 3 (p.Steps.map D.PolicyStep.cells))), (vI p.Repeat)]))], [], (.ref 1001 0), [(1001, (.box [(vS p.Name), (.p (.sl false 3 (p.Steps.map D.PolicyStep.cells))), (vI p.Repeat)]))], [1001]⟩),
  (some 2, ⟨[], [], (vI 0), [], []⟩)]
  ⟨StepOK.p rfl rfl rfl (OpOK.box rfl rfl rfl),
  StepOK.p rfl rfl rfl (OpOK.assign rfl rfl), rfl⟩
  [(1, (.ref 1001 0))]
  [(1001, (.box [(vS p.Name), (.p (.sl false 3 (p.Steps.map D.PolicyStep.cells))), (vI p.Repeat)]))]
  (by kernel_rfl) ?_
 refine AWp.s_draw hGn hGk (by kernel_rfl)
  [(some 6, ⟨[(1, (.ref 1001 0))], [(1001, (.box [(vS p.Name), (.p (.sl false 3 (p.Steps.map D.PolicyStep.cells))), (vI p.Repeat)]))], (.agg [(vS p.Name), (.p (.sl false 3 (p.Steps.map D.PolicyStep.cells))), (vI p.Repeat)]), [], []⟩),
  (some 7, ⟨[(1, (.ref 1001 0))], [(1001, (.box [(vS p.Name), (.p (.sl false 3 (p.Steps.map D.PolicyStep.cells))), (vI p.Repeat)]))], (.agg [(vS p.Name), (.p (.sl false 3 (p.Steps.map D.PolicyStep.cells))), (vI p.Repeat)]), [], []⟩),
  (some 8, ⟨[(7, (.agg [(vS p.Name), (.p (.sl false 3 (p.Steps.map D.PolicyStep.cells))), (vI p.Repeat)]))], [], (vI (count p)), [], []⟩),
  (some 9, ⟨[(6, (.agg [(vS p.Name), (.p (.sl false 3 (p.Steps.map D.PolicyStep.cells))), (vI p.Repeat)])), (8, (vI (count p)))], [], (.tup [(vI ((offset p (count p)).1)), (vB ((offset p (count p)).2))]), [], []⟩),
  (some 5, ⟨[(9, (.tup [(vI ((offset p (count p)).1)), (vB ((offset p (count p)).2))]))], [], (.tup [(vI ((offset p (count p)).1)), (vB ((offset p (count p)).2))]), [], []⟩),
  (some 10, ⟨[(5, (.tup [(vI ((offset p (count p)).1)), (vB ((offset p (count p)).2))]))], [], (vI ((offset p (count p)).1)), [], []⟩),
  (some 11, ⟨[(5, (.tup [(vI ((offset p (count p)).1)), (vB ((offset p (count p)).2))]))], [], (vB ((offset p (count p)).2)), [], []⟩),
  (some 3, ⟨[(10, (vI ((offset p (count p)).1)))], [], (vI ((offset p (count p)).1)), [], []⟩),
  (some 4, ⟨[(11, (vB ((offset p (count p)).2)))], [], (vB ((offset p (count p)).2)), [], []⟩)]
  ⟨StepOK.p rfl rfl rfl (OpOK.loadBoxAgg (z := 3) rfl rfl (by kernel_rfl) (by kernel_rfl) rfl rfl),
  StepOK.p rfl rfl rfl (OpOK.loadBoxAgg (z := 3) rfl rfl (by kernel_rfl) (by kernel_rfl) rfl rfl),
  StepOK.p rfl rfl rfl (OpOK.call rfl (by kernel_rfl) rfl (ref_Count p (by first | omega | decide)) (by kernel_rfl)),
  StepOK.p rfl rfl rfl (OpOK.call rfl (by kernel_rfl) rfl (ref_Offset p (count p) (by first | omega | decide)) (by kernel_rfl)),
  StepOK.p rfl rfl rfl (OpOK.move rfl rfl),
  StepOK.p rfl rfl rfl (OpOK.extract rfl rfl rfl),
  StepOK.p rfl rfl rfl (OpOK.extract rfl rfl rfl),
  StepOK.p rfl rfl rfl (OpOK.assign rfl rfl),
  StepOK.p rfl rfl rfl (OpOK.assign rfl rfl), rfl⟩
  [(3, (vI ((offset p (count p)).1)))]
  []
  (by kernel_rfl) (by kernel_rfl) ?_
 refine AWp.s_region hGn hGk 
  [(some 12, ⟨[(3, (vI ((offset p (count p)).1)))], [], (vI ((offset p (count p)).1)), [], []⟩),
  (some 2, ⟨[(12, (vI ((offset p (count p)).1)))], [], (vI ((offset p (count p)).1)), [], []⟩)]
  ⟨StepOK.p rfl rfl rfl (OpOK.move rfl rfl),
  StepOK.p rfl rfl rfl (OpOK.assign rfl rfl), rfl⟩
  [(2, (vI ((offset p (count p)).1)))]
  []
  (by kernel_rfl) ?_
 refine AWp.ret ?_
 refine fin_of (.inr rfl) (v := (vI ((offset p (count p)).1))) (Res.tmp rfl rfl) (h' := []) rfl rfl ?_
 exact ⟨rfl, rfl⟩

theorem ref_Started (p : D.Policy) (o : Int) (hl : p.Steps.length ≤ 1000000) :
    SpecIs Try.prog 20 [(.agg [(vS p.Name), (.p (.sl false 3 (p.Steps.map D.PolicyStep.cells))), (vI p.Repeat)]), (vI o)] [] (vI ((started p o : Nat) : Int)) [] := by
 refine Spec.intro Try.func20 rfl (by kernel_rfl) ?_
 intro Γ hGn hGk
 replace hGn : Γ.n = 30 := hGn
 replace hGk : Γ.names = [] := hGk
 refine AWp.weaken (mk [(0, (.agg [(vS p.Name), (.p (.sl false 3 (p.Steps.map D.PolicyStep.cells))), (vI p.Repeat)])), (1, (vI o))] []) (Weak.sub' hGk (by kernel_rfl)) ?_
 refine AWp.s_region hGn hGk 
  [(some 2, ⟨[(0, (.agg [(vS p.Name), (.p (.sl false 3 (p.Steps.map D.PolicyStep.cells))), (vI p.Repeat)]))], [], (.ref 1002 0), [(1002, (.box [(vS p.Name), (.p (.sl false 3 (p.Steps.map D.PolicyStep.cells))), (vI p.Repeat)]))], [1002]⟩),
  (some 4, ⟨[], [], (vI 0), [], []⟩)]
  ⟨StepOK.p rfl rfl rfl (OpOK.box rfl rfl rfl),
  StepOK.p rfl rfl rfl (OpOK.assign rfl rfl), rfl⟩
  [(1, (vI o)), (2, (.ref 1002 0))]
  [(1002, (.box [(vS p.Name), (.p (.sl false 3 (p.Steps.map D.PolicyStep.cells))), (vI p.Repeat)]))]
  (by kernel_rfl) ?_
 refine AWp.s_region hGn hGk 
  [(some 5, ⟨[], [], (vI 0), [], []⟩)]
  ⟨StepOK.p rfl rfl rfl (OpOK.assign rfl rfl), rfl⟩
  [(1, (vI o)), (2, (.ref 1002 0)), (5, (vI 0))]
  [(1002, (.box [(vS p.Name), (.p (.sl false 3 (p.Steps.map D.PolicyStep.cells))), (vI p.Repeat)]))]
  (by kernel_rfl) ?_
 refine AWp.seq ?_
 refine AWp.s_region hGn hGk 
  [(some 6, ⟨[], [], (vI 0), [], []⟩)]
  ⟨StepOK.p rfl rfl rfl (OpOK.assign rfl rfl), rfl⟩
  [(1, (vI o)), (2, (.ref 1002 0)), (5, (vI 0)), (6, (vI 0))]
  [(1002, (.box [(vS p.Name), (.p (.sl false 3 (p.Steps.map D.PolicyStep.cells))), (vI p.Repeat)]))]
  (by kernel_rfl) ?_
 refine AWp.block ?_
 refine AWp.loop (fun m s => ∃ k, s = (mk [(1, (vI o)), (2, (.ref 1002 0)), (5, (vI ((cntR p o k : Nat) : Int))), (6, (vI ((k : Nat) : Int)))] [(1002, (.box [(vS p.Name), (.p (.sl false 3 (p.Steps.map D.PolicyStep.cells))), (vI p.Repeat)]))]) ∧ ((k : Int) ≤ count p) ∧ m = ((count p).toNat - k))
  ⟨_, 0, (by simp [cntR, cntLe]), (by have := count_le p; omega), rfl⟩ ?_
 rintro mm1 s ⟨k, rfl, hk, hmm1⟩
 have hcl := count_le p
 have hrl := cntR_le p o k
 refine AWp.seq ?_
 refine AWp.s_region hGn hGk 
  [(some 9, ⟨[(6, (vI ((k : Nat) : Int)))], [], (vI ((k : Nat) : Int)), [], []⟩),
  (some 10, ⟨[(2, (.ref 1002 0))], [(1002, (.box [(vS p.Name), (.p (.sl false 3 (p.Steps.map D.PolicyStep.cells))), (vI p.Repeat)]))], (.agg [(vS p.Name), (.p (.sl false 3 (p.Steps.map D.PolicyStep.cells))), (vI p.Repeat)]), [], []⟩),
  (some 11, ⟨[(10, (.agg [(vS p.Name), (.p (.sl false 3 (p.Steps.map D.PolicyStep.cells))), (vI p.Repeat)]))], [], (vI (count p)), [], []⟩),
  (some 12, ⟨[(9, (vI ((k : Nat) : Int))), (11, (vI (count p)))], [], (vB (decide (((k : Nat) : Int) < (count p)))), [], []⟩)]
  ⟨StepOK.p rfl rfl rfl (OpOK.move rfl rfl),
  StepOK.p rfl rfl rfl (OpOK.loadBoxAgg (z := 3) rfl rfl (by kernel_rfl) (by kernel_rfl) rfl rfl),
  StepOK.p rfl rfl rfl (OpOK.call rfl (by kernel_rfl) rfl (ref_Count p (by first | omega | decide)) (by kernel_rfl)),
  StepOK.p rfl rfl rfl (OpOK.lss rfl rfl rfl rfl), rfl⟩
  [(1, (vI o)), (2, (.ref 1002 0)), (5, (vI ((cntR p o k : Nat) : Int))), (6, (vI ((k : Nat) : Int))), (12, (vB (decide (((k : Nat) : Int) < (count p)))))]
  [(1002, (.box [(vS p.Name), (.p (.sl false 3 (p.Steps.map D.PolicyStep.cells))), (vI p.Repeat)]))]
  (by kernel_rfl) ?_
 refine AWp.cond (decide (((k : Nat) : Int) < (count p))) rfl (fun hc2 => ?_) (fun hc2 => ?_)
 ·skip
  replace hc2 := of_decide_eq_true hc2
  refine AWp.skip ?_
  refine nextQ_normal ?_
  refine AWp.seq ?_
  refine AWp.block ?_
  refine AWp.s_region hGn hGk 
   [(some 16, ⟨[(2, (.ref 1002 0))], [(1002, (.box [(vS p.Name), (.p (.sl false 3 (p.Steps.map D.PolicyStep.cells))), (vI p.Repeat)]))], (.agg [(vS p.Name), (.p (.sl false 3 (p.Steps.map D.PolicyStep.cells))), (vI p.Repeat)]), [], []⟩),
   (some 17, ⟨[(6, (vI ((k : Nat) : Int)))], [], (vI ((k : Nat) : Int)), [], []⟩),
   (some 18, ⟨[(16, (.agg [(vS p.Name), (.p (.sl false 3 (p.Steps.map D.PolicyStep.cells))), (vI p.Repeat)])), (17, (vI ((k : Nat) : Int)))], [], (.tup [(vI ((offset p ((k : Nat) : Int)).1)), (vB ((offset p ((k : Nat) : Int)).2))]), [], []⟩),
   (some 15, ⟨[(18, (.tup [(vI ((offset p ((k : Nat) : Int)).1)), (vB ((offset p ((k : Nat) : Int)).2))]))], [], (.tup [(vI ((offset p ((k : Nat) : Int)).1)), (vB ((offset p ((k : Nat) : Int)).2))]), [], []⟩),
   (some 19, ⟨[(15, (.tup [(vI ((offset p ((k : Nat) : Int)).1)), (vB ((offset p ((k : Nat) : Int)).2))]))], [], (vI ((offset p ((k : Nat) : Int)).1)), [], []⟩),
   (some 20, ⟨[(15, (.tup [(vI ((offset p ((k : Nat) : Int)).1)), (vB ((offset p ((k : Nat) : Int)).2))]))], [], (vB ((offset p ((k : Nat) : Int)).2)), [], []⟩),
   (some 7, ⟨[(19, (vI ((offset p ((k : Nat) : Int)).1)))], [], (vI ((offset p ((k : Nat) : Int)).1)), [], []⟩),
   (some 8, ⟨[(20, (vB ((offset p ((k : Nat) : Int)).2)))], [], (vB ((offset p ((k : Nat) : Int)).2)), [], []⟩)]
   ⟨StepOK.p rfl rfl rfl (OpOK.loadBoxAgg (z := 3) rfl rfl (by kernel_rfl) (by kernel_rfl) rfl rfl),
   StepOK.p rfl rfl rfl (OpOK.move rfl rfl),
   StepOK.p rfl rfl rfl (OpOK.call rfl (by kernel_rfl) rfl (ref_Offset p ((k : Nat) : Int) (by first | omega | decide)) (by kernel_rfl)),
   StepOK.p rfl rfl rfl (OpOK.move rfl rfl),
   StepOK.p rfl rfl rfl (OpOK.extract rfl rfl rfl),
   StepOK.p rfl rfl rfl (OpOK.extract rfl rfl rfl),
   StepOK.p rfl rfl rfl (OpOK.assign rfl rfl),
   StepOK.p rfl rfl rfl (OpOK.assign rfl rfl), rfl⟩
   [(1, (vI o)), (2, (.ref 1002 0)), (5, (vI ((cntR p o k : Nat) : Int))), (6, (vI ((k : Nat) : Int))), (7, (vI ((offset p ((k : Nat) : Int)).1))), (8, (vB ((offset p ((k : Nat) : Int)).2)))]
   [(1002, (.box [(vS p.Name), (.p (.sl false 3 (p.Steps.map D.PolicyStep.cells))), (vI p.Repeat)]))]
   (by kernel_rfl) ?_
  cases hs3 : (offset p ((k : Nat) : Int)).2
  ·skip
   try rw [show (mk [(1, (vI o)), (2, (.ref 1002 0)), (5, (vI ((cntR p o k : Nat) : Int))), (6, (vI ((k : Nat) : Int))), (7, (vI ((offset p ((k : Nat) : Int)).1))), (8, (vB ((offset p ((k : Nat) : Int)).2)))] [(1002, (.box [(vS p.Name), (.p (.sl false 3 (p.Steps.map D.PolicyStep.cells))), (vI p.Repeat)]))]) = (mk [(1, (vI o)), (2, (.ref 1002 0)), (5, (vI ((cntR p o k : Nat) : Int))), (6, (vI ((k : Nat) : Int))), (7, (vI ((offset p ((k : Nat) : Int)).1))), (8, (vB false))] [(1002, (.box [(vS p.Name), (.p (.sl false 3 (p.Steps.map D.PolicyStep.cells))), (vI p.Repeat)]))]) from by rw [hs3]]
   refine AWp.s_region hGn hGk 
    [(some 21, ⟨[(8, (vB false))], [], (vB false), [], []⟩),
    (some 22, ⟨[(21, (vB false))], [], (vB false), [], []⟩),
    (some 23, ⟨[(22, (vB false))], [], (.tup []), [], []⟩),
    (some 24, ⟨[(22, (vB false))], [], (.tup []), [], []⟩),
    (some 25, ⟨[(22, (vB false))], [], (.tup []), [], []⟩),
    (some 26, ⟨[(22, (vB false))], [], (vB false), [], []⟩)]
    ⟨StepOK.p rfl rfl rfl (OpOK.move rfl rfl),
    StepOK.p rfl rfl rfl (OpOK.move rfl rfl),
    StepOK.k rfl rfl rfl rfl rfl rfl,
    StepOK.k rfl rfl rfl rfl rfl rfl,
    StepOK.k rfl rfl rfl rfl rfl rfl,
    StepOK.p rfl rfl rfl (OpOK.pickF rfl rfl rfl), rfl⟩
    [(1, (vI o)), (2, (.ref 1002 0)), (5, (vI ((cntR p o k : Nat) : Int))), (6, (vI ((k : Nat) : Int))), (26, (vB false))]
    [(1002, (.box [(vS p.Name), (.p (.sl false 3 (p.Steps.map D.PolicyStep.cells))), (vI p.Repeat)]))]
    (by kernel_rfl) ?_
   refine AWp.cond_false rfl ?_
   refine AWp.skip ?_
   refine blockQ_normal ?_
   refine nextQ_normal ?_
   refine AWp.region' hGn hGk 
    [(some 13, ⟨[(6, (vI ((k : Nat) : Int)))], [], (vI ((k : Nat) : Int)), [], []⟩),
    (some 14, ⟨[(13, (vI ((k : Nat) : Int)))], [], (vI ((k + 1 : Nat) : Int)), [], []⟩),
    (some 6, ⟨[(14, (vI ((k + 1 : Nat) : Int)))], [], (vI ((k + 1 : Nat) : Int)), [], []⟩)]
    ⟨StepOK.p rfl rfl rfl (OpOK.move rfl rfl),
    StepOK.p rfl rfl rfl (OpOK.add rfl rfl rfl (by rw [IntWalk.i64_in _ ⟨by omega, by omega⟩]; omega)),
    StepOK.p rfl rfl rfl (OpOK.assign rfl rfl), rfl⟩
    [(1, (vI o)), (2, (.ref 1002 0)), (5, (vI ((cntR p o k : Nat) : Int))), (6, (vI ((k + 1 : Nat) : Int)))]
    [(1002, (.box [(vS p.Name), (.p (.sl false 3 (p.Steps.map D.PolicyStep.cells))), (vI p.Repeat)]))]
    (by kernel_rfl) ?_
   refine nextQ_normal ⟨_, ?_, (k + 1), (by rw [cntR_no (by omega) (by first | (left; assumption) | (right; assumption))]), (by omega), rfl⟩
   · omega
  ·skip
   try rw [show (mk [(1, (vI o)), (2, (.ref 1002 0)), (5, (vI ((cntR p o k : Nat) : Int))), (6, (vI ((k : Nat) : Int))), (7, (vI ((offset p ((k : Nat) : Int)).1))), (8, (vB ((offset p ((k : Nat) : Int)).2)))] [(1002, (.box [(vS p.Name), (.p (.sl false 3 (p.Steps.map D.PolicyStep.cells))), (vI p.Repeat)]))]) = (mk [(1, (vI o)), (2, (.ref 1002 0)), (5, (vI ((cntR p o k : Nat) : Int))), (6, (vI ((k : Nat) : Int))), (7, (vI ((offset p ((k : Nat) : Int)).1))), (8, (vB true))] [(1002, (.box [(vS p.Name), (.p (.sl false 3 (p.Steps.map D.PolicyStep.cells))), (vI p.Repeat)]))]) from by rw [hs3]]
   refine AWp.s_region hGn hGk 
    [(some 21, ⟨[(8, (vB true))], [], (vB true), [], []⟩),
    (some 22, ⟨[(21, (vB true))], [], (vB true), [], []⟩),
    (some 23, ⟨[(7, (vI ((offset p ((k : Nat) : Int)).1))), (22, (vB true))], [], (vI ((offset p ((k : Nat) : Int)).1)), [], []⟩),
    (some 24, ⟨[(1, (vI o)), (22, (vB true))], [], (vI o), [], []⟩),
    (some 25, ⟨[(23, (vI ((offset p ((k : Nat) : Int)).1))), (24, (vI o)), (22, (vB true))], [], (vB (decide (((offset p ((k : Nat) : Int)).1) ≤ o))), [], []⟩),
    (some 26, ⟨[(22, (vB true)), (25, (vB (decide (((offset p ((k : Nat) : Int)).1) ≤ o))))], [], (vB (decide (((offset p ((k : Nat) : Int)).1) ≤ o))), [], []⟩)]
    ⟨StepOK.p rfl rfl rfl (OpOK.move rfl rfl),
    StepOK.p rfl rfl rfl (OpOK.move rfl rfl),
    StepOK.g rfl rfl rfl rfl rfl (by simp) (OpOK.move rfl rfl),
    StepOK.g rfl rfl rfl rfl rfl (by simp) (OpOK.move rfl rfl),
    StepOK.g rfl rfl rfl rfl rfl (by simp) (OpOK.leq rfl rfl rfl rfl),
    StepOK.p rfl rfl rfl (OpOK.pickT rfl rfl rfl), rfl⟩
    [(1, (vI o)), (2, (.ref 1002 0)), (5, (vI ((cntR p o k : Nat) : Int))), (6, (vI ((k : Nat) : Int))), (26, (vB (decide (((offset p ((k : Nat) : Int)).1) ≤ o))))]
    [(1002, (.box [(vS p.Name), (.p (.sl false 3 (p.Steps.map D.PolicyStep.cells))), (vI p.Repeat)]))]
    (by kernel_rfl) ?_
   refine AWp.cond (decide (((offset p ((k : Nat) : Int)).1) ≤ o)) rfl (fun hc4 => ?_) (fun hc4 => ?_)
   ·skip
    replace hc4 := of_decide_eq_true hc4
    refine AWp.region' hGn hGk 
     [(some 27, ⟨[(5, (vI ((cntR p o k : Nat) : Int)))], [], (vI ((cntR p o k : Nat) : Int)), [], []⟩),
     (some 28, ⟨[(27, (vI ((cntR p o k : Nat) : Int)))], [], (vI (((cntR p o k) + 1 : Nat) : Int)), [], []⟩),
     (some 5, ⟨[(28, (vI (((cntR p o k) + 1 : Nat) : Int)))], [], (vI (((cntR p o k) + 1 : Nat) : Int)), [], []⟩)]
     ⟨StepOK.p rfl rfl rfl (OpOK.move rfl rfl),
     StepOK.p rfl rfl rfl (OpOK.add rfl rfl rfl (by rw [IntWalk.i64_in _ ⟨by omega, by omega⟩]; omega)),
     StepOK.p rfl rfl rfl (OpOK.assign rfl rfl), rfl⟩
     [(1, (vI o)), (2, (.ref 1002 0)), (5, (vI (((cntR p o k) + 1 : Nat) : Int))), (6, (vI ((k : Nat) : Int)))]
     [(1002, (.box [(vS p.Name), (.p (.sl false 3 (p.Steps.map D.PolicyStep.cells))), (vI p.Repeat)]))]
     (by kernel_rfl) ?_
    refine blockQ_normal ?_
    refine nextQ_normal ?_
    refine AWp.region' hGn hGk 
     [(some 13, ⟨[(6, (vI ((k : Nat) : Int)))], [], (vI ((k : Nat) : Int)), [], []⟩),
     (some 14, ⟨[(13, (vI ((k : Nat) : Int)))], [], (vI ((k + 1 : Nat) : Int)), [], []⟩),
     (some 6, ⟨[(14, (vI ((k + 1 : Nat) : Int)))], [], (vI ((k + 1 : Nat) : Int)), [], []⟩)]
     ⟨StepOK.p rfl rfl rfl (OpOK.move rfl rfl),
     StepOK.p rfl rfl rfl (OpOK.add rfl rfl rfl (by rw [IntWalk.i64_in _ ⟨by omega, by omega⟩]; omega)),
     StepOK.p rfl rfl rfl (OpOK.assign rfl rfl), rfl⟩
     [(1, (vI o)), (2, (.ref 1002 0)), (5, (vI (((cntR p o k) + 1 : Nat) : Int))), (6, (vI ((k + 1 : Nat) : Int)))]
     [(1002, (.box [(vS p.Name), (.p (.sl false 3 (p.Steps.map D.PolicyStep.cells))), (vI p.Repeat)]))]
     (by kernel_rfl) ?_
    refine nextQ_normal ⟨_, ?_, (k + 1), (by rw [cntR_yes (by omega) (by assumption) (by assumption)]), (by omega), rfl⟩
    · omega
   ·skip
    replace hc4 := of_decide_eq_false hc4
    refine AWp.skip ?_
    refine blockQ_normal ?_
    refine nextQ_normal ?_
    refine AWp.region' hGn hGk 
     [(some 13, ⟨[(6, (vI ((k : Nat) : Int)))], [], (vI ((k : Nat) : Int)), [], []⟩),
     (some 14, ⟨[(13, (vI ((k : Nat) : Int)))], [], (vI ((k + 1 : Nat) : Int)), [], []⟩),
     (some 6, ⟨[(14, (vI ((k + 1 : Nat) : Int)))], [], (vI ((k + 1 : Nat) : Int)), [], []⟩)]
     ⟨StepOK.p rfl rfl rfl (OpOK.move rfl rfl),
     StepOK.p rfl rfl rfl (OpOK.add rfl rfl rfl (by rw [IntWalk.i64_in _ ⟨by omega, by omega⟩]; omega)),
     StepOK.p rfl rfl rfl (OpOK.assign rfl rfl), rfl⟩
     [(1, (vI o)), (2, (.ref 1002 0)), (5, (vI ((cntR p o k : Nat) : Int))), (6, (vI ((k + 1 : Nat) : Int)))]
     [(1002, (.box [(vS p.Name), (.p (.sl false 3 (p.Steps.map D.PolicyStep.cells))), (vI p.Repeat)]))]
     (by kernel_rfl) ?_
    refine nextQ_normal ⟨_, ?_, (k + 1), (by rw [cntR_no (by omega) (by first | (left; assumption) | (right; assumption))]), (by omega), rfl⟩
    · omega
 ·skip
  replace hc2 := of_decide_eq_false hc2
  refine AWp.weaken (mk [(5, (vI ((cntR p o k : Nat) : Int)))] []) (Weak.sub' hGk (by kernel_rfl)) ?_
  refine AWp.exit ?_
  refine nextQ_exit ?_
  refine nextQ_exit ?_
  refine blockQ_exit ?_
  refine nextQ_normal ?_
  refine AWp.s_region hGn hGk 
   [(some 29, ⟨[(5, (vI ((cntR p o k : Nat) : Int)))], [], (vI ((cntR p o k : Nat) : Int)), [], []⟩),
   (some 4, ⟨[(29, (vI ((cntR p o k : Nat) : Int)))], [], (vI ((cntR p o k : Nat) : Int)), [], []⟩)]
   ⟨StepOK.p rfl rfl rfl (OpOK.move rfl rfl),
   StepOK.p rfl rfl rfl (OpOK.assign rfl rfl), rfl⟩
   [(4, (vI ((cntR p o k : Nat) : Int)))]
   []
   (by kernel_rfl) ?_
  refine AWp.ret ?_
  refine fin_of (.inr rfl) (v := (vI ((cntR p o k : Nat) : Int))) (Res.tmp rfl rfl) (h' := []) rfl rfl ?_
  exact ⟨by rw [cntR_all p o (k := k) (by omega)], rfl⟩
end Go.Proofs.Yteccnpkpjaknkaa
