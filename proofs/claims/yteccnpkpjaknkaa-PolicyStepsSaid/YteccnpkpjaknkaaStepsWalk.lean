/-
  The walk of PolicySteps. Printed by wip/gen/pol.py.
-/
import Derived.Test.YteccnpkpjaknkaaOddWalk
import Derived.Test.YteccnpkpjaknkaaRefWalk
import Derived.Test.YteccnpkpjaknkaaStepsLaw
set_option maxRecDepth 100000
set_option linter.unusedSimpArgs false
set_option linter.unusedVariables false
namespace Go.Proofs.Yteccnpkpjaknkaa
open Go AM
theorem law_PolicySteps (L : List Int) (q : D.Policy) (k o : Int) :
    SpecIs Try.prog 5 [(.p (.sl false 1 (L.map D.cInt))), (.agg [(vS q.Name), (.p (.sl false 3 (q.Steps.map D.PolicyStep.cells))), (vI q.Repeat)]), (vI k), (vI o)] [] (vB true) [] := by
 refine Spec.intro Try.func5 rfl (by kernel_rfl) ?_
 intro Γ hGn hGk
 replace hGn : Γ.n = 146 := hGn
 replace hGk : Γ.names = [] := hGk
 refine AWp.weaken (mk [(0, (.p (.sl false 1 (L.map D.cInt)))), (1, (.agg [(vS q.Name), (.p (.sl false 3 (q.Steps.map D.PolicyStep.cells))), (vI q.Repeat)])), (2, (vI k)), (3, (vI o))] []) (Weak.sub' hGk (by kernel_rfl)) ?_
 refine AWp.s_region hGn hGk 
  [(some 5, ⟨[(1, (.agg [(vS q.Name), (.p (.sl false 3 (q.Steps.map D.PolicyStep.cells))), (vI q.Repeat)]))], [], (.ref 1005 0), [(1005, (.box [(vS q.Name), (.p (.sl false 3 (q.Steps.map D.PolicyStep.cells))), (vI q.Repeat)]))], [1005]⟩),
  (some 8, ⟨[], [], (vB false), [], []⟩)]
  ⟨StepOK.p rfl rfl rfl (OpOK.box rfl rfl rfl),
  StepOK.p rfl rfl rfl (OpOK.assign rfl rfl), rfl⟩
  [(0, (.p (.sl false 1 (L.map D.cInt)))), (2, (vI k)), (3, (vI o)), (5, (.ref 1005 0))]
  [(1005, (.box [(vS q.Name), (.p (.sl false 3 (q.Steps.map D.PolicyStep.cells))), (vI q.Repeat)]))]
  (by kernel_rfl) ?_
 refine AWp.seq ?_
 by_cases hs1 : ((L.length : Nat) : Int) ≤ (500 : Int)
 ·skip
  refine AWp.s_region hGn hGk 
   [(some 27, ⟨[(0, (.p (.sl false 1 (L.map D.cInt))))], [], (.p (.sl false 1 (L.map D.cInt))), [], []⟩),
   (some 28, ⟨[(27, (.p (.sl false 1 (L.map D.cInt))))], [], (vB true), [], []⟩),
   (some 29, ⟨[(28, (vB true))], [], (vB false), [], []⟩),
   (some 30, ⟨[(29, (vB false))], [], (vB false), [], []⟩),
   (some 31, ⟨[(5, (.ref 1005 0)), (30, (vB false))], [(1005, (.box [(vS q.Name), (.p (.sl false 3 (q.Steps.map D.PolicyStep.cells))), (vI q.Repeat)]))], (.ref 1005 1), [], []⟩),
   (some 32, ⟨[(31, (.ref 1005 1)), (30, (vB false))], [(1005, (.box [(vS q.Name), (.p (.sl false 3 (q.Steps.map D.PolicyStep.cells))), (vI q.Repeat)]))], (.p (.sl false 3 (q.Steps.map D.PolicyStep.cells))), [], []⟩),
   (some 33, ⟨[(32, (.p (.sl false 3 (q.Steps.map D.PolicyStep.cells)))), (30, (vB false))], [], (vI ((q.Steps.length : Nat) : Int)), [], []⟩),
   (some 34, ⟨[(33, (vI ((q.Steps.length : Nat) : Int))), (30, (vB false))], [], (vB (decide ((20 : Int) < ((q.Steps.length : Nat) : Int)))), [], []⟩),
   (some 35, ⟨[(30, (vB false)), (34, (vB (decide ((20 : Int) < ((q.Steps.length : Nat) : Int)))))], [], (vB (decide ((20 : Int) < ((q.Steps.length : Nat) : Int)))), [], []⟩)]
   ⟨StepOK.p rfl rfl rfl (OpOK.move rfl rfl),
   StepOK.p rfl rfl rfl (OpOK.call rfl (by kernel_rfl) rfl (by have hq := (made_Light L); rw [(decide_eq_true hs1)] at hq; exact hq) (by kernel_rfl)),
   StepOK.p rfl rfl rfl (OpOK.not rfl rfl rfl),
   StepOK.p rfl rfl rfl (OpOK.move rfl rfl),
   StepOK.g rfl rfl rfl rfl rfl (by simp) (OpOK.fieldRef (fo := 1) rfl rfl (by kernel_rfl) rfl),
   StepOK.g rfl rfl rfl rfl rfl (by simp) (OpOK.loadBox rfl rfl (by kernel_rfl) rfl),
   StepOK.g rfl rfl rfl rfl rfl (by simp) (OpOK.lenP (e := 44) rfl rfl (by kernel_rfl) rfl (by rw [List.length_map])),
   StepOK.g rfl rfl rfl rfl rfl (by simp) (OpOK.gtr rfl rfl rfl rfl),
   StepOK.p rfl rfl rfl (OpOK.pickF rfl rfl rfl), rfl⟩
   [(0, (.p (.sl false 1 (L.map D.cInt)))), (2, (vI k)), (3, (vI o)), (5, (.ref 1005 0)), (35, (vB (decide ((20 : Int) < ((q.Steps.length : Nat) : Int)))))]
   [(1005, (.box [(vS q.Name), (.p (.sl false 3 (q.Steps.map D.PolicyStep.cells))), (vI q.Repeat)]))]
   (by kernel_rfl) ?_
  refine AWp.cond (decide ((20 : Int) < ((q.Steps.length : Nat) : Int))) rfl (fun hc2 => ?_) (fun hc2 => ?_)
  ·skip
   replace hc2 := of_decide_eq_true hc2
   refine AWp.s_region hGn hGk 
    [(some 36, ⟨[], [], (vB true), [], []⟩),
    (some 8, ⟨[(36, (vB true))], [], (vB true), [], []⟩)]
    ⟨StepOK.p rfl rfl rfl (OpOK.call rfl (by kernel_rfl) rfl law_sane (by kernel_rfl)),
    StepOK.p rfl rfl rfl (OpOK.assign rfl rfl), rfl⟩
    [(8, (vB true))]
    []
    (by kernel_rfl) ?_
   refine AWp.ret ?_
   refine nextQ_ret ?_
   refine fin_of (.inr rfl) (v := (vB true)) (Res.tmp rfl rfl) (h' := []) rfl rfl ?_
   exact ⟨rfl, rfl⟩
  ·skip
   replace hc2 := of_decide_eq_false hc2
   refine AWp.skip ?_
   refine nextQ_normal ?_
   have hL : L.length ≤ 500 := by omega
   refine AWp.s_region hGn hGk 
    [(some 37, ⟨[(0, (.p (.sl false 1 (L.map D.cInt))))], [], (.p (.sl false 1 (L.map D.cInt))), [], []⟩),
    (some 38, ⟨[(37, (.p (.sl false 1 (L.map D.cInt))))], [], (.ref 1 0), [(1, (.box [(.p (.sl false 1 (L.map D.cInt))), (vI ((0 : Nat) : Int))]))], [1]⟩),
    (some 9, ⟨[(38, (.ref 1 0))], [], (.ref 1 0), [], []⟩)]
    ⟨StepOK.p rfl rfl rfl (OpOK.move rfl rfl),
    StepOK.p rfl rfl rfl (OpOK.call rfl (by kernel_rfl) rfl (made_Roll L) (by kernel_rfl)),
    StepOK.p rfl rfl rfl (OpOK.assign rfl rfl), rfl⟩
    [(2, (vI k)), (3, (vI o)), (5, (.ref 1005 0)), (9, (.ref 1 0))]
    [(1005, (.box [(vS q.Name), (.p (.sl false 3 (q.Steps.map D.PolicyStep.cells))), (vI q.Repeat)])), (1, (.box [(.p (.sl false 1 (L.map D.cInt))), (vI ((0 : Nat) : Int))]))]
    (by kernel_rfl) ?_
   have hbi : bookI L 0 ≤ L.length := bookI_le (Nat.zero_le _)
   refine AWp.s_region hGn hGk 
    [(some 39, ⟨[(9, (.ref 1 0))], [], (.ref 1 0), [], []⟩),
    (some 40, ⟨[(9, (.ref 1 0))], [], (.ref 1 0), [], []⟩),
    (some 41, ⟨[(40, (.ref 1 0))], [(1, (.box [(.p (.sl false 1 (L.map D.cInt))), (vI ((0 : Nat) : Int))]))], (.agg [(.p (.sl false 2 (((book L 0).Teams).map D.Team.cells))), (.p (.sl false 3 (((book L 0).Policies).map D.Policy.cells)))]), [(1, (.box [(.p (.sl false 1 (L.map D.cInt))), (vI ((bookI L 0 : Nat) : Int))]))], []⟩),
    (some 42, ⟨[(39, (.ref 1 0)), (41, (.agg [(.p (.sl false 2 (((book L 0).Teams).map D.Team.cells))), (.p (.sl false 3 (((book L 0).Policies).map D.Policy.cells)))]))], [(1, (.box [(.p (.sl false 1 (L.map D.cInt))), (vI ((bookI L 0 : Nat) : Int))]))], (.agg [(.p (.sl false 2 (((oddBook L (bookI L 0) (book L 0)).Teams).map D.Team.cells))), (.own 2001 ((((oddBook L (bookI L 0) (book L 0)).Policies).map D.Policy.cells).length))]), [(1, (.box [(.p (.sl false 1 (L.map D.cInt))), (vI ((oddBookI L (bookI L 0) (book L 0) : Nat) : Int))])), (2001, (.arr 3 (((oddBook L (bookI L 0) (book L 0)).Policies).map D.Policy.cells)))], [2001]⟩),
    (some 10, ⟨[], [], (.ref 1010 0), [(1010, (.box [(.p (.sl true 0 [])), (.p (.sl true 0 []))]))], [1010]⟩),
    (none, ⟨[(10, (.ref 1010 0)), (42, (.agg [(.p (.sl false 2 (((oddBook L (bookI L 0) (book L 0)).Teams).map D.Team.cells))), (.own 2001 ((((oddBook L (bookI L 0) (book L 0)).Policies).map D.Policy.cells).length))]))], [(1010, (.box [(.p (.sl true 0 [])), (.p (.sl true 0 []))]))], .any, [(1010, (.box [(.p (.sl false 2 (((oddBook L (bookI L 0) (book L 0)).Teams).map D.Team.cells))), (.own 2001 ((((oddBook L (bookI L 0) (book L 0)).Policies).map D.Policy.cells).length))]))], []⟩)]
    ⟨StepOK.p rfl rfl rfl (OpOK.move rfl rfl),
    StepOK.p rfl rfl rfl (OpOK.move rfl rfl),
    StepOK.p rfl rfl rfl (OpOK.call rfl (by kernel_rfl) rfl (made_Book L 0 hL (by repeat (first | assumption | exact Nat.zero_le _ | apply nextI_le | apply oneI_le | apply targetI_le | apply teamI_le | apply stepI_le | apply policyI_le))) (by kernel_rfl)),
    StepOK.p rfl rfl rfl (OpOK.call rfl (by kernel_rfl) rfl (made_OddBook L (bookI L 0) (book L 0) hL (by repeat (first | assumption | exact Nat.zero_le _ | apply nextI_le | apply oneI_le | apply targetI_le | apply teamI_le | apply stepI_le | apply policyI_le)) (book_teams L 0) (by have := book_good L 0; omega) (book_members L 0) (fun p hp => by have := ((book_good L 0).1 p hp).len8; omega) (book_targets L 0)) (by kernel_rfl)),
    StepOK.p rfl rfl rfl (OpOK.alloc rfl (by kernel_rfl)),
    StepOK.p rfl rfl rfl (OpOK.storeBox rfl rfl rfl rfl rfl (by kernel_rfl) (by kernel_rfl) rfl), rfl⟩
    [(2, (vI k)), (3, (vI o)), (5, (.ref 1005 0)), (9, (.ref 1 0)), (10, (.ref 1010 0))]
    [(1005, (.box [(vS q.Name), (.p (.sl false 3 (q.Steps.map D.PolicyStep.cells))), (vI q.Repeat)])), (1, (.box [(.p (.sl false 1 (L.map D.cInt))), (vI ((oddBookI L (bookI L 0) (book L 0) : Nat) : Int))])), (2001, (.arr 3 (((oddBook L (bookI L 0) (book L 0)).Policies).map D.Policy.cells))), (1010, (.box [(.p (.sl false 2 (((oddBook L (bookI L 0) (book L 0)).Teams).map D.Team.cells))), (.own 2001 ((((oddBook L (bookI L 0) (book L 0)).Policies).map D.Policy.cells).length))]))]
    (by kernel_rfl) ?_
   refine AWp.seq ?_
   have hsm := odd_small (L := L) (i := bookI L 0) (b := book L 0) (fun p hp => by have := ((book_good L 0).1 p hp).len8; omega) (by have := book_good L 0; omega)
   have hql : q.Steps.length ≤ 20 := by omega
   obtain ⟨ob, hob⟩ : ∃ ob, (oddBook L (bookI L 0) (book L 0)) = ob := ⟨_, rfl⟩
   rw [hob] at hsm
   rw [show (mk [(2, (vI k)), (3, (vI o)), (5, (.ref 1005 0)), (9, (.ref 1 0)), (10, (.ref 1010 0))] [(1005, (.box [(vS q.Name), (.p (.sl false 3 (q.Steps.map D.PolicyStep.cells))), (vI q.Repeat)])), (1, (.box [(.p (.sl false 1 (L.map D.cInt))), (vI ((oddBookI L (bookI L 0) (book L 0) : Nat) : Int))])), (2001, (.arr 3 (((oddBook L (bookI L 0) (book L 0)).Policies).map D.Policy.cells))), (1010, (.box [(.p (.sl false 2 (((oddBook L (bookI L 0) (book L 0)).Teams).map D.Team.cells))), (.own 2001 ((((oddBook L (bookI L 0) (book L 0)).Policies).map D.Policy.cells).length))]))]) = (mk [(2, (vI k)), (3, (vI o)), (5, (.ref 1005 0)), (9, (.ref 1 0)), (10, (.ref 1010 0))] [(1005, (.box [(vS q.Name), (.p (.sl false 3 (q.Steps.map D.PolicyStep.cells))), (vI q.Repeat)])), (1, (.box [(.p (.sl false 1 (L.map D.cInt))), (vI ((oddBookI L (bookI L 0) (book L 0) : Nat) : Int))])), (2001, (.arr 3 (ob.Policies.map D.Policy.cells))), (1010, (.box [(.p (.sl false 2 (ob.Teams.map D.Team.cells))), (.own 2001 ((ob.Policies.map D.Policy.cells).length))]))]) from by rw [hob]]
   refine AWp.s_region hGn hGk 
    [(some 43, ⟨[(10, (.ref 1010 0))], [(1010, (.box [(.p (.sl false 2 (ob.Teams.map D.Team.cells))), (.own 2001 ((ob.Policies.map D.Policy.cells).length))]))], (.ref 1010 1), [], []⟩),
    (some 44, ⟨[(43, (.ref 1010 1))], [(1010, (.box [(.p (.sl false 2 (ob.Teams.map D.Team.cells))), (.own 2001 ((ob.Policies.map D.Policy.cells).length))]))], (.own 2001 ((ob.Policies.map D.Policy.cells).length)), [], []⟩),
    (some 45, ⟨[(5, (.ref 1005 0))], [(1005, (.box [(vS q.Name), (.p (.sl false 3 (q.Steps.map D.PolicyStep.cells))), (vI q.Repeat)]))], (.agg [(vS q.Name), (.p (.sl false 3 (q.Steps.map D.PolicyStep.cells))), (vI q.Repeat)]), [], []⟩),
    (some 46, ⟨[(45, (.agg [(vS q.Name), (.p (.sl false 3 (q.Steps.map D.PolicyStep.cells))), (vI q.Repeat)]))], [], (.p (.sl true 3 [[(pS q.Name), (.sl false 3 (q.Steps.map D.PolicyStep.cells)), (pI q.Repeat)]])), [], []⟩),
    (some 47, ⟨[(44, (.own 2001 ((ob.Policies.map D.Policy.cells).length))), (46, (.p (.sl true 3 [[(pS q.Name), (.sl false 3 (q.Steps.map D.PolicyStep.cells)), (pI q.Repeat)]])))], [(2001, (.arr 3 (ob.Policies.map D.Policy.cells)))], (.own 2001 (((ob.Policies ++ [q]).map D.Policy.cells).length)), [(2001, (.arr 3 ((ob.Policies ++ [q]).map D.Policy.cells)))], []⟩),
    (some 48, ⟨[(47, (.own 2001 (((ob.Policies ++ [q]).map D.Policy.cells).length)))], [(2001, (.arr 3 ((ob.Policies ++ [q]).map D.Policy.cells)))], (vI (((ob.Policies ++ [q]).length : Nat) : Int)), [], []⟩),
    (some 49, ⟨[], [], (vI 0), [], []⟩)]
    ⟨StepOK.p rfl rfl rfl (OpOK.fieldRef (fo := 1) rfl rfl (by kernel_rfl) rfl),
    StepOK.p rfl rfl rfl (OpOK.loadBox rfl rfl (by kernel_rfl) rfl),
    StepOK.p rfl rfl rfl (OpOK.loadBoxAgg (z := 3) rfl rfl (by kernel_rfl) (by kernel_rfl) rfl rfl),
    StepOK.p rfl rfl rfl (OpOK.buildSlice (e := 35) (zr := [(pS (ByteArray.mk #[])), (.sl true 0 []), (pI 0)]) rfl (by kernel_rfl) (by kernel_rfl) (by kernel_rfl) (by kernel_rfl) rfl (by kernel_rfl) rfl),
    StepOK.p rfl rfl rfl (OpOK.appendOwn (e := 35) (bytes := 48) rfl rfl (by kernel_rfl) (by kernel_rfl) rfl (Nat.beq_refl _) rfl (by rw [List.map_append]; rfl) rfl (by simp only [List.length_map, List.length_cons, List.length_nil]; omega) (by simp only [List.length_map, List.length_cons, List.length_nil]; omega)),
    StepOK.p rfl rfl rfl (OpOK.lenOwn (e := 35) rfl rfl (by kernel_rfl) rfl (Nat.beq_refl _) (by rw [List.length_map])),
    StepOK.p rfl rfl rfl (OpOK.move rfl rfl), rfl⟩
    [(2, (vI k)), (3, (vI o)), (9, (.ref 1 0)), (47, (.own 2001 (((ob.Policies ++ [q]).map D.Policy.cells).length))), (48, (vI (((ob.Policies ++ [q]).length : Nat) : Int))), (49, (vI 0))]
    [(1, (.box [(.p (.sl false 1 (L.map D.cInt))), (vI ((oddBookI L (bookI L 0) (book L 0) : Nat) : Int))])), (2001, (.arr 3 ((ob.Policies ++ [q]).map D.Policy.cells)))]
    (by kernel_rfl) ?_
   refine AWp.block ?_
   refine AWp.weaken (mk [(2, (vI k)), (3, (vI o)), (9, (.ref 1 0)), (47, (.own 2001 (((ob.Policies ++ [q]).map D.Policy.cells).length))), (48, (vI (((ob.Policies ++ [q]).length : Nat) : Int))), (49, (vI 0))] [(2001, (.arr 3 ((ob.Policies ++ [q]).map D.Policy.cells))), (1, (.box [(.p (.sl false 1 (L.map D.cInt))), (vI ((oddBookI L (bookI L 0) (book L 0) : Nat) : Int))]))]) (Weak.sub' hGk (by kernel_rfl)) ?_
   refine AWp.weaken (mk [(2, (vI k)), (3, (vI o)), (9, (.ref 1 0)), (47, (.p (.sl false 3 ((ob.Policies ++ [q]).map D.Policy.cells)))), (48, (vI (((ob.Policies ++ [q]).length : Nat) : Int))), (49, (vI 0))] [(1, (.box [(.p (.sl false 1 (L.map D.cInt))), (vI ((oddBookI L (bookI L 0) (book L 0) : Nat) : Int))]))]) (Weak.freeze (n := 2001) (es := 3) (rows := ((ob.Policies ++ [q]).map D.Policy.cells)) (by rw [hGk]; decide) ⟨rfl, (.same rfl), ⟨rfl, (.same rfl), ⟨rfl, (.same rfl), ⟨rfl, .own, ⟨rfl, (.same rfl), ⟨rfl, (.same rfl), trivial⟩⟩⟩⟩⟩⟩ ⟨rfl, by decide, (.same rfl), trivial⟩) ?_
   obtain ⟨ps, hps⟩ : ∃ ps, ob.Policies ++ [q] = ps := ⟨_, rfl⟩
   have hpl : ps.length ≤ 1001 := by rw [← hps, List.length_append]; have := hsm.2; simp only [List.length_cons, List.length_nil]; omega
   have hpm : ∀ p ∈ ps, p.Steps.length ≤ 1000 := fun p hp => by rw [← hps] at hp; rcases List.mem_append.1 hp with hp | hp; exact hsm.1 p hp; simp only [List.mem_singleton] at hp; rw [hp]; omega
   rw [show (mk [(2, (vI k)), (3, (vI o)), (9, (.ref 1 0)), (47, (.p (.sl false 3 ((ob.Policies ++ [q]).map D.Policy.cells)))), (48, (vI (((ob.Policies ++ [q]).length : Nat) : Int))), (49, (vI 0))] [(1, (.box [(.p (.sl false 1 (L.map D.cInt))), (vI ((oddBookI L (bookI L 0) (book L 0) : Nat) : Int))]))]) = (mk [(2, (vI k)), (3, (vI o)), (9, (.ref 1 0)), (47, (.p (.sl false 3 (ps.map D.Policy.cells)))), (48, (vI ((ps.length : Nat) : Int))), (49, (vI 0))] [(1, (.box [(.p (.sl false 1 (L.map D.cInt))), (vI ((oddBookI L (bookI L 0) (book L 0) : Nat) : Int))]))]) from by rw [hps]]
   refine AWp.loop (fun m s => ∃ j, ∃ i1, s = (mk [(2, (vI k)), (3, (vI o)), (9, (.ref 1 0)), (47, (.p (.sl false 3 (ps.map D.Policy.cells)))), (48, (vI ((ps.length : Nat) : Int))), (49, (vI ((j : Nat) : Int)))] [(1, (.box [(.p (.sl false 1 (L.map D.cInt))), (vI ((i1 : Nat) : Int))]))]) ∧ (j ≤ ps.length) ∧ (i1 ≤ L.length) ∧ m = (ps.length - j))
    ⟨_, 0, (oddBookI L (bookI L 0) (book L 0)), rfl, (by omega), (oddBookI_le (bookI_le (Nat.zero_le _))), rfl⟩ ?_
   rintro mm3 s ⟨j, i1, rfl, hj, hi1, hmm3⟩
   refine AWp.s_region hGn hGk 
    [(some 50, ⟨[(49, (vI ((j : Nat) : Int))), (48, (vI ((ps.length : Nat) : Int)))], [], (vB (decide (((j : Nat) : Int) < ((ps.length : Nat) : Int)))), [], []⟩)]
    ⟨StepOK.p rfl rfl rfl (OpOK.lss rfl rfl rfl rfl), rfl⟩
    [(2, (vI k)), (3, (vI o)), (9, (.ref 1 0)), (47, (.p (.sl false 3 (ps.map D.Policy.cells)))), (48, (vI ((ps.length : Nat) : Int))), (49, (vI ((j : Nat) : Int))), (50, (vB (decide (((j : Nat) : Int) < ((ps.length : Nat) : Int)))))]
    [(1, (.box [(.p (.sl false 1 (L.map D.cInt))), (vI ((i1 : Nat) : Int))]))]
    (by kernel_rfl) ?_
   refine AWp.seq ?_
   refine AWp.cond (decide (((j : Nat) : Int) < ((ps.length : Nat) : Int))) rfl (fun hc4 => ?_) (fun hc4 => ?_)
   ·skip
    replace hc4 := of_decide_eq_true hc4
    refine AWp.skip ?_
    refine nextQ_normal ?_
    refine AWp.seq ?_
    refine AWp.block ?_
    obtain ⟨p, hp⟩ : ∃ p, nth ps j = p := ⟨_, rfl⟩
    have hpk : p.Steps.length ≤ 1000 := hp ▸ hpm _ (nth_mem (by omega))
    have hcl := count_le p
    refine AWp.s_region hGn hGk 
     [(some 51, ⟨[(47, (.p (.sl false 3 (ps.map D.Policy.cells)))), (49, (vI ((j : Nat) : Int)))], [], (.eptr [(pS p.Name), (.sl false 3 (p.Steps.map D.PolicyStep.cells)), (pI p.Repeat)]), [], []⟩),
     (some 52, ⟨[(51, (.eptr [(pS p.Name), (.sl false 3 (p.Steps.map D.PolicyStep.cells)), (pI p.Repeat)]))], [], (.agg [(vS p.Name), (.p (.sl false 3 (p.Steps.map D.PolicyStep.cells))), (vI p.Repeat)]), [], []⟩),
     (some 12, ⟨[], [], (.ref 1012 0), [(1012, (.box [(vS (ByteArray.mk #[])), (.p (.sl true 0 [])), (vI 0)]))], [1012]⟩),
     (none, ⟨[(12, (.ref 1012 0)), (52, (.agg [(vS p.Name), (.p (.sl false 3 (p.Steps.map D.PolicyStep.cells))), (vI p.Repeat)]))], [(1012, (.box [(vS (ByteArray.mk #[])), (.p (.sl true 0 [])), (vI 0)]))], .any, [(1012, (.box [(vS p.Name), (.p (.sl false 3 (p.Steps.map D.PolicyStep.cells))), (vI p.Repeat)]))], []⟩)]
     ⟨StepOK.p rfl rfl rfl (OpOK.indexP (e := 35) rfl (by kernel_rfl) (by kernel_rfl) rfl rfl rfl (map_nth_eq hp (by omega))),
     StepOK.p rfl rfl rfl (OpOK.loadPtrAgg (z := 3) (sub := [(pS p.Name), (.sl false 3 (p.Steps.map D.PolicyStep.cells)), (pI p.Repeat)]) rfl rfl (by kernel_rfl) (by kernel_rfl) rfl rfl rfl),
     StepOK.p rfl rfl rfl (OpOK.alloc rfl (by kernel_rfl)),
     StepOK.p rfl rfl rfl (OpOK.storeBox rfl rfl rfl rfl rfl (by kernel_rfl) (by kernel_rfl) rfl), rfl⟩
     [(2, (vI k)), (3, (vI o)), (9, (.ref 1 0)), (12, (.ref 1012 0)), (47, (.p (.sl false 3 (ps.map D.Policy.cells)))), (48, (vI ((ps.length : Nat) : Int))), (49, (vI ((j : Nat) : Int)))]
     [(1, (.box [(.p (.sl false 1 (L.map D.cInt))), (vI ((i1 : Nat) : Int))])), (1012, (.box [(vS p.Name), (.p (.sl false 3 (p.Steps.map D.PolicyStep.cells))), (vI p.Repeat)]))]
     (by kernel_rfl) ?_
    refine AWp.seq ?_
    have hf5 := nextN_lt L i1 12 (by omega)
    refine AWp.s_draw hGn hGk (by kernel_rfl)
     [(some 53, ⟨[(2, (vI k))], [], (vI k), [], []⟩),
     (some 54, ⟨[(9, (.ref 1 0))], [], (.ref 1 0), [], []⟩),
     (some 55, ⟨[(54, (.ref 1 0))], [(1, (.box [(.p (.sl false 1 (L.map D.cInt))), (vI ((i1 : Nat) : Int))]))], (vI ((nextN L i1 12 : Nat) : Int)), [(1, (.box [(.p (.sl false 1 (L.map D.cInt))), (vI ((nextI L i1 12 : Nat) : Int))]))], []⟩),
     (some 56, ⟨[(55, (vI ((nextN L i1 12 : Nat) : Int)))], [], (vI (((nextN L i1 12 : Nat) : Int) - 1)), [], []⟩),
     (some 57, ⟨[(12, (.ref 1012 0))], [(1012, (.box [(vS p.Name), (.p (.sl false 3 (p.Steps.map D.PolicyStep.cells))), (vI p.Repeat)]))], (.agg [(vS p.Name), (.p (.sl false 3 (p.Steps.map D.PolicyStep.cells))), (vI p.Repeat)]), [], []⟩),
     (some 58, ⟨[(57, (.agg [(vS p.Name), (.p (.sl false 3 (p.Steps.map D.PolicyStep.cells))), (vI p.Repeat)]))], [], (vI (count p)), [], []⟩),
     (some 59, ⟨[(53, (vI k)), (56, (vI (((nextN L i1 12 : Nat) : Int) - 1))), (58, (vI (count p)))], [], (.p (.sl true 1 [[(pI k)], [(pI (((nextN L i1 12 : Nat) : Int) - 1))], [(pI (count p))]])), [], []⟩),
     (some 60, ⟨[(59, (.p (.sl true 1 [[(pI k)], [(pI (((nextN L i1 12 : Nat) : Int) - 1))], [(pI (count p))]])))], [], (vI 3), [], []⟩),
     (some 61, ⟨[], [], (vI 0), [], []⟩)]
     ⟨StepOK.p rfl rfl rfl (OpOK.move rfl rfl),
     StepOK.p rfl rfl rfl (OpOK.move rfl rfl),
     StepOK.p rfl rfl rfl (OpOK.call rfl (by kernel_rfl) rfl (made_Next L i1 12 hL (by repeat (first | assumption | exact Nat.zero_le _ | apply nextI_le | apply oneI_le | apply targetI_le | apply teamI_le | apply stepI_le | apply policyI_le)) (by omega)) (by kernel_rfl)),
     StepOK.p rfl rfl rfl (OpOK.sub rfl rfl rfl (IntWalk.i64_in _ ⟨by omega, by omega⟩)),
     StepOK.p rfl rfl rfl (OpOK.loadBoxAgg (z := 3) rfl rfl (by kernel_rfl) (by kernel_rfl) rfl rfl),
     StepOK.p rfl rfl rfl (OpOK.call rfl (by kernel_rfl) rfl (ref_Count p (by first | omega | decide)) (by kernel_rfl)),
     StepOK.p rfl rfl rfl (OpOK.buildSlice (e := 3) (zr := [(pI 0)]) rfl (by kernel_rfl) (by kernel_rfl) (by kernel_rfl) (by kernel_rfl) rfl (by kernel_rfl) rfl),
     StepOK.p rfl rfl rfl (OpOK.lenP (e := 3) rfl rfl (by kernel_rfl) rfl rfl),
     StepOK.p rfl rfl rfl (OpOK.move rfl rfl), rfl⟩
     [(2, (vI k)), (3, (vI o)), (9, (.ref 1 0)), (12, (.ref 1012 0)), (47, (.p (.sl false 3 (ps.map D.Policy.cells)))), (48, (vI ((ps.length : Nat) : Int))), (49, (vI ((j : Nat) : Int))), (59, (.p (.sl true 1 [[(pI k)], [(pI (((nextN L i1 12 : Nat) : Int) - 1))], [(pI (count p))]]))), (60, (vI 3)), (61, (vI 0))]
     [(1, (.box [(.p (.sl false 1 (L.map D.cInt))), (vI ((nextI L i1 12 : Nat) : Int))])), (1012, (.box [(vS p.Name), (.p (.sl false 3 (p.Steps.map D.PolicyStep.cells))), (vI p.Repeat)]))]
     (by kernel_rfl) (by kernel_rfl) ?_
    refine AWp.block ?_
    refine AWp.loop (fun m s => ∃ mi, s = (mk [(2, (vI k)), (3, (vI o)), (9, (.ref 1 0)), (12, (.ref 1012 0)), (47, (.p (.sl false 3 (ps.map D.Policy.cells)))), (48, (vI ((ps.length : Nat) : Int))), (49, (vI ((j : Nat) : Int))), (59, (.p (.sl true 1 [[(pI k)], [(pI (((nextN L i1 12 : Nat) : Int) - 1))], [(pI (count p))]]))), (60, (vI 3)), (61, (vI ((mi : Nat) : Int)))] [(1, (.box [(.p (.sl false 1 (L.map D.cInt))), (vI ((nextI L i1 12 : Nat) : Int))])), (1012, (.box [(vS p.Name), (.p (.sl false 3 (p.Steps.map D.PolicyStep.cells))), (vI p.Repeat)]))]) ∧ (mi ≤ 3) ∧ m = (3 - mi))
     ⟨_, 0, rfl, (by omega), rfl⟩ ?_
    rintro mm6 s ⟨mi, rfl, hmi, hmm6⟩
    refine AWp.s_region hGn hGk 
     [(some 62, ⟨[(61, (vI ((mi : Nat) : Int))), (60, (vI 3))], [], (vB (decide (((mi : Nat) : Int) < (3 : Int)))), [], []⟩)]
     ⟨StepOK.p rfl rfl rfl (OpOK.lss rfl rfl rfl rfl), rfl⟩
     [(2, (vI k)), (3, (vI o)), (9, (.ref 1 0)), (12, (.ref 1012 0)), (47, (.p (.sl false 3 (ps.map D.Policy.cells)))), (48, (vI ((ps.length : Nat) : Int))), (49, (vI ((j : Nat) : Int))), (59, (.p (.sl true 1 [[(pI k)], [(pI (((nextN L i1 12 : Nat) : Int) - 1))], [(pI (count p))]]))), (60, (vI 3)), (61, (vI ((mi : Nat) : Int))), (62, (vB (decide (((mi : Nat) : Int) < (3 : Int)))))]
     [(1, (.box [(.p (.sl false 1 (L.map D.cInt))), (vI ((nextI L i1 12 : Nat) : Int))])), (1012, (.box [(vS p.Name), (.p (.sl false 3 (p.Steps.map D.PolicyStep.cells))), (vI p.Repeat)]))]
     (by kernel_rfl) ?_
    refine AWp.seq ?_
    refine AWp.cond (decide (((mi : Nat) : Int) < (3 : Int))) rfl (fun hc7 => ?_) (fun hc7 => ?_)
    ·skip
     replace hc7 := of_decide_eq_true hc7
     refine AWp.skip ?_
     refine nextQ_normal ?_
     refine AWp.seq ?_
     refine AWp.block ?_
     refine AWp.s_region hGn hGk 
      [(some 63, ⟨[(59, (.p (.sl true 1 [[(pI k)], [(pI (((nextN L i1 12 : Nat) : Int) - 1))], [(pI (count p))]]))), (61, (vI ((mi : Nat) : Int)))], [], (.eptr [(pI (nth ([k, ((nextN L i1 12 : Nat) : Int) - 1, count p] : List Int) mi))]), [], []⟩),
      (some 64, ⟨[(63, (.eptr [(pI (nth ([k, ((nextN L i1 12 : Nat) : Int) - 1, count p] : List Int) mi))]))], [], (vI (nth ([k, ((nextN L i1 12 : Nat) : Int) - 1, count p] : List Int) mi)), [], []⟩),
      (some 14, ⟨[(64, (vI (nth ([k, ((nextN L i1 12 : Nat) : Int) - 1, count p] : List Int) mi)))], [], (vI (nth ([k, ((nextN L i1 12 : Nat) : Int) - 1, count p] : List Int) mi)), [], []⟩)]
      ⟨StepOK.p rfl rfl rfl (OpOK.indexP (e := 3) rfl (by kernel_rfl) (by kernel_rfl) rfl rfl rfl (map_nth (l := ([k, ((nextN L i1 12 : Nat) : Int) - 1, count p] : List Int)) (f := D.cInt) (by simp only [List.length_cons, List.length_nil]; omega))),
      StepOK.p rfl rfl rfl (OpOK.loadPtr rfl rfl (by kernel_rfl) rfl),
      StepOK.p rfl rfl rfl (OpOK.assign rfl rfl), rfl⟩
      [(2, (vI k)), (3, (vI o)), (9, (.ref 1 0)), (12, (.ref 1012 0)), (14, (vI (nth ([k, ((nextN L i1 12 : Nat) : Int) - 1, count p] : List Int) mi))), (47, (.p (.sl false 3 (ps.map D.Policy.cells)))), (48, (vI ((ps.length : Nat) : Int))), (49, (vI ((j : Nat) : Int))), (59, (.p (.sl true 1 [[(pI k)], [(pI (((nextN L i1 12 : Nat) : Int) - 1))], [(pI (count p))]]))), (60, (vI 3)), (61, (vI ((mi : Nat) : Int)))]
      [(1, (.box [(.p (.sl false 1 (L.map D.cInt))), (vI ((nextI L i1 12 : Nat) : Int))])), (1012, (.box [(vS p.Name), (.p (.sl false 3 (p.Steps.map D.PolicyStep.cells))), (vI p.Repeat)]))]
      (by kernel_rfl) ?_
     obtain ⟨zmi, hzmi⟩ : ∃ zmi, nth ([k, ((nextN L i1 12 : Nat) : Int) - 1, count p] : List Int) mi = zmi := ⟨_, rfl⟩
     rw [show (mk [(2, (vI k)), (3, (vI o)), (9, (.ref 1 0)), (12, (.ref 1012 0)), (14, (vI (nth ([k, ((nextN L i1 12 : Nat) : Int) - 1, count p] : List Int) mi))), (47, (.p (.sl false 3 (ps.map D.Policy.cells)))), (48, (vI ((ps.length : Nat) : Int))), (49, (vI ((j : Nat) : Int))), (59, (.p (.sl true 1 [[(pI k)], [(pI (((nextN L i1 12 : Nat) : Int) - 1))], [(pI (count p))]]))), (60, (vI 3)), (61, (vI ((mi : Nat) : Int)))] [(1, (.box [(.p (.sl false 1 (L.map D.cInt))), (vI ((nextI L i1 12 : Nat) : Int))])), (1012, (.box [(vS p.Name), (.p (.sl false 3 (p.Steps.map D.PolicyStep.cells))), (vI p.Repeat)]))]) = (mk [(2, (vI k)), (3, (vI o)), (9, (.ref 1 0)), (12, (.ref 1012 0)), (14, (vI zmi)), (47, (.p (.sl false 3 (ps.map D.Policy.cells)))), (48, (vI ((ps.length : Nat) : Int))), (49, (vI ((j : Nat) : Int))), (59, (.p (.sl true 1 [[(pI k)], [(pI (((nextN L i1 12 : Nat) : Int) - 1))], [(pI (count p))]]))), (60, (vI 3)), (61, (vI ((mi : Nat) : Int)))] [(1, (.box [(.p (.sl false 1 (L.map D.cInt))), (vI ((nextI L i1 12 : Nat) : Int))])), (1012, (.box [(vS p.Name), (.p (.sl false 3 (p.Steps.map D.PolicyStep.cells))), (vI p.Repeat)]))]) from by rw [hzmi]]
     refine AWp.s_region hGn hGk 
      [(some 66, ⟨[(12, (.ref 1012 0))], [(1012, (.box [(vS p.Name), (.p (.sl false 3 (p.Steps.map D.PolicyStep.cells))), (vI p.Repeat)]))], (.agg [(vS p.Name), (.p (.sl false 3 (p.Steps.map D.PolicyStep.cells))), (vI p.Repeat)]), [], []⟩),
      (some 67, ⟨[(14, (vI zmi))], [], (vI zmi), [], []⟩),
      (some 68, ⟨[(66, (.agg [(vS p.Name), (.p (.sl false 3 (p.Steps.map D.PolicyStep.cells))), (vI p.Repeat)])), (67, (vI zmi))], [], (.tup [(vI ((part p zmi).1)), (vI ((part p zmi).2.1)), (vB ((part p zmi).2.2))]), [], []⟩),
      (some 65, ⟨[(68, (.tup [(vI ((part p zmi).1)), (vI ((part p zmi).2.1)), (vB ((part p zmi).2.2))]))], [], (.tup [(vI ((part p zmi).1)), (vI ((part p zmi).2.1)), (vB ((part p zmi).2.2))]), [], []⟩),
      (some 69, ⟨[(65, (.tup [(vI ((part p zmi).1)), (vI ((part p zmi).2.1)), (vB ((part p zmi).2.2))]))], [], (vI ((part p zmi).1)), [], []⟩),
      (some 70, ⟨[(65, (.tup [(vI ((part p zmi).1)), (vI ((part p zmi).2.1)), (vB ((part p zmi).2.2))]))], [], (vI ((part p zmi).2.1)), [], []⟩),
      (some 71, ⟨[(65, (.tup [(vI ((part p zmi).1)), (vI ((part p zmi).2.1)), (vB ((part p zmi).2.2))]))], [], (vB ((part p zmi).2.2)), [], []⟩),
      (some 15, ⟨[(69, (vI ((part p zmi).1)))], [], (vI ((part p zmi).1)), [], []⟩),
      (some 16, ⟨[(70, (vI ((part p zmi).2.1)))], [], (vI ((part p zmi).2.1)), [], []⟩),
      (some 17, ⟨[(71, (vB ((part p zmi).2.2)))], [], (vB ((part p zmi).2.2)), [], []⟩)]
      ⟨StepOK.p rfl rfl rfl (OpOK.loadBoxAgg (z := 3) rfl rfl (by kernel_rfl) (by kernel_rfl) rfl rfl),
      StepOK.p rfl rfl rfl (OpOK.move rfl rfl),
      StepOK.p rfl rfl rfl (OpOK.call rfl (by kernel_rfl) rfl (pol_Part p zmi (by omega)) (by kernel_rfl)),
      StepOK.p rfl rfl rfl (OpOK.move rfl rfl),
      StepOK.p rfl rfl rfl (OpOK.extract rfl rfl rfl),
      StepOK.p rfl rfl rfl (OpOK.extract rfl rfl rfl),
      StepOK.p rfl rfl rfl (OpOK.extract rfl rfl rfl),
      StepOK.p rfl rfl rfl (OpOK.assign rfl rfl),
      StepOK.p rfl rfl rfl (OpOK.assign rfl rfl),
      StepOK.p rfl rfl rfl (OpOK.assign rfl rfl), rfl⟩
      [(2, (vI k)), (3, (vI o)), (9, (.ref 1 0)), (12, (.ref 1012 0)), (14, (vI zmi)), (15, (vI ((part p zmi).1))), (16, (vI ((part p zmi).2.1))), (17, (vB ((part p zmi).2.2))), (47, (.p (.sl false 3 (ps.map D.Policy.cells)))), (48, (vI ((ps.length : Nat) : Int))), (49, (vI ((j : Nat) : Int))), (59, (.p (.sl true 1 [[(pI k)], [(pI (((nextN L i1 12 : Nat) : Int) - 1))], [(pI (count p))]]))), (60, (vI 3)), (61, (vI ((mi : Nat) : Int)))]
      [(1, (.box [(.p (.sl false 1 (L.map D.cInt))), (vI ((nextI L i1 12 : Nat) : Int))])), (1012, (.box [(vS p.Name), (.p (.sl false 3 (p.Steps.map D.PolicyStep.cells))), (vI p.Repeat)]))]
      (by kernel_rfl) ?_
     refine AWp.s_region hGn hGk 
      [(some 73, ⟨[(12, (.ref 1012 0))], [(1012, (.box [(vS p.Name), (.p (.sl false 3 (p.Steps.map D.PolicyStep.cells))), (vI p.Repeat)]))], (.agg [(vS p.Name), (.p (.sl false 3 (p.Steps.map D.PolicyStep.cells))), (vI p.Repeat)]), [], []⟩),
      (some 74, ⟨[(14, (vI zmi))], [], (vI zmi), [], []⟩),
      (some 75, ⟨[(73, (.agg [(vS p.Name), (.p (.sl false 3 (p.Steps.map D.PolicyStep.cells))), (vI p.Repeat)])), (74, (vI zmi))], [], (.tup [(vI ((part p zmi).1)), (vI ((part p zmi).2.1)), (vB ((part p zmi).2.2))]), [], []⟩),
      (some 72, ⟨[(75, (.tup [(vI ((part p zmi).1)), (vI ((part p zmi).2.1)), (vB ((part p zmi).2.2))]))], [], (.tup [(vI ((part p zmi).1)), (vI ((part p zmi).2.1)), (vB ((part p zmi).2.2))]), [], []⟩),
      (some 76, ⟨[(72, (.tup [(vI ((part p zmi).1)), (vI ((part p zmi).2.1)), (vB ((part p zmi).2.2))]))], [], (vI ((part p zmi).1)), [], []⟩),
      (some 77, ⟨[(72, (.tup [(vI ((part p zmi).1)), (vI ((part p zmi).2.1)), (vB ((part p zmi).2.2))]))], [], (vI ((part p zmi).2.1)), [], []⟩),
      (some 78, ⟨[(72, (.tup [(vI ((part p zmi).1)), (vI ((part p zmi).2.1)), (vB ((part p zmi).2.2))]))], [], (vB ((part p zmi).2.2)), [], []⟩),
      (some 18, ⟨[(76, (vI ((part p zmi).1)))], [], (vI ((part p zmi).1)), [], []⟩),
      (some 19, ⟨[(77, (vI ((part p zmi).2.1)))], [], (vI ((part p zmi).2.1)), [], []⟩),
      (some 20, ⟨[(78, (vB ((part p zmi).2.2)))], [], (vB ((part p zmi).2.2)), [], []⟩)]
      ⟨StepOK.p rfl rfl rfl (OpOK.loadBoxAgg (z := 3) rfl rfl (by kernel_rfl) (by kernel_rfl) rfl rfl),
      StepOK.p rfl rfl rfl (OpOK.move rfl rfl),
      StepOK.p rfl rfl rfl (OpOK.call rfl (by kernel_rfl) rfl (ref_Part p zmi (by omega)) (by kernel_rfl)),
      StepOK.p rfl rfl rfl (OpOK.move rfl rfl),
      StepOK.p rfl rfl rfl (OpOK.extract rfl rfl rfl),
      StepOK.p rfl rfl rfl (OpOK.extract rfl rfl rfl),
      StepOK.p rfl rfl rfl (OpOK.extract rfl rfl rfl),
      StepOK.p rfl rfl rfl (OpOK.assign rfl rfl),
      StepOK.p rfl rfl rfl (OpOK.assign rfl rfl),
      StepOK.p rfl rfl rfl (OpOK.assign rfl rfl), rfl⟩
      [(2, (vI k)), (3, (vI o)), (9, (.ref 1 0)), (12, (.ref 1012 0)), (14, (vI zmi)), (15, (vI ((part p zmi).1))), (16, (vI ((part p zmi).2.1))), (17, (vB ((part p zmi).2.2))), (18, (vI ((part p zmi).1))), (19, (vI ((part p zmi).2.1))), (20, (vB ((part p zmi).2.2))), (47, (.p (.sl false 3 (ps.map D.Policy.cells)))), (48, (vI ((ps.length : Nat) : Int))), (49, (vI ((j : Nat) : Int))), (59, (.p (.sl true 1 [[(pI k)], [(pI (((nextN L i1 12 : Nat) : Int) - 1))], [(pI (count p))]]))), (60, (vI 3)), (61, (vI ((mi : Nat) : Int)))]
      [(1, (.box [(.p (.sl false 1 (L.map D.cInt))), (vI ((nextI L i1 12 : Nat) : Int))])), (1012, (.box [(vS p.Name), (.p (.sl false 3 (p.Steps.map D.PolicyStep.cells))), (vI p.Repeat)]))]
      (by kernel_rfl) ?_
     refine AWp.s_region hGn hGk 
      [(some 80, ⟨[(12, (.ref 1012 0))], [(1012, (.box [(vS p.Name), (.p (.sl false 3 (p.Steps.map D.PolicyStep.cells))), (vI p.Repeat)]))], (.agg [(vS p.Name), (.p (.sl false 3 (p.Steps.map D.PolicyStep.cells))), (vI p.Repeat)]), [], []⟩),
      (some 81, ⟨[(14, (vI zmi))], [], (vI zmi), [], []⟩),
      (some 82, ⟨[(80, (.agg [(vS p.Name), (.p (.sl false 3 (p.Steps.map D.PolicyStep.cells))), (vI p.Repeat)])), (81, (vI zmi))], [], (.tup [(vI ((offset p zmi).1)), (vB ((offset p zmi).2))]), [], []⟩),
      (some 79, ⟨[(82, (.tup [(vI ((offset p zmi).1)), (vB ((offset p zmi).2))]))], [], (.tup [(vI ((offset p zmi).1)), (vB ((offset p zmi).2))]), [], []⟩),
      (some 83, ⟨[(79, (.tup [(vI ((offset p zmi).1)), (vB ((offset p zmi).2))]))], [], (vI ((offset p zmi).1)), [], []⟩),
      (some 84, ⟨[(79, (.tup [(vI ((offset p zmi).1)), (vB ((offset p zmi).2))]))], [], (vB ((offset p zmi).2)), [], []⟩),
      (some 21, ⟨[(83, (vI ((offset p zmi).1)))], [], (vI ((offset p zmi).1)), [], []⟩),
      (some 22, ⟨[(84, (vB ((offset p zmi).2)))], [], (vB ((offset p zmi).2)), [], []⟩)]
      ⟨StepOK.p rfl rfl rfl (OpOK.loadBoxAgg (z := 3) rfl rfl (by kernel_rfl) (by kernel_rfl) rfl rfl),
      StepOK.p rfl rfl rfl (OpOK.move rfl rfl),
      StepOK.p rfl rfl rfl (OpOK.call rfl (by kernel_rfl) rfl (pol_Offset p zmi (by first | omega | decide)) (by kernel_rfl)),
      StepOK.p rfl rfl rfl (OpOK.move rfl rfl),
      StepOK.p rfl rfl rfl (OpOK.extract rfl rfl rfl),
      StepOK.p rfl rfl rfl (OpOK.extract rfl rfl rfl),
      StepOK.p rfl rfl rfl (OpOK.assign rfl rfl),
      StepOK.p rfl rfl rfl (OpOK.assign rfl rfl), rfl⟩
      [(2, (vI k)), (3, (vI o)), (9, (.ref 1 0)), (12, (.ref 1012 0)), (14, (vI zmi)), (15, (vI ((part p zmi).1))), (16, (vI ((part p zmi).2.1))), (17, (vB ((part p zmi).2.2))), (18, (vI ((part p zmi).1))), (19, (vI ((part p zmi).2.1))), (20, (vB ((part p zmi).2.2))), (21, (vI ((offset p zmi).1))), (22, (vB ((offset p zmi).2))), (47, (.p (.sl false 3 (ps.map D.Policy.cells)))), (48, (vI ((ps.length : Nat) : Int))), (49, (vI ((j : Nat) : Int))), (59, (.p (.sl true 1 [[(pI k)], [(pI (((nextN L i1 12 : Nat) : Int) - 1))], [(pI (count p))]]))), (60, (vI 3)), (61, (vI ((mi : Nat) : Int)))]
      [(1, (.box [(.p (.sl false 1 (L.map D.cInt))), (vI ((nextI L i1 12 : Nat) : Int))])), (1012, (.box [(vS p.Name), (.p (.sl false 3 (p.Steps.map D.PolicyStep.cells))), (vI p.Repeat)]))]
      (by kernel_rfl) ?_
     refine AWp.s_region hGn hGk 
      [(some 86, ⟨[(12, (.ref 1012 0))], [(1012, (.box [(vS p.Name), (.p (.sl false 3 (p.Steps.map D.PolicyStep.cells))), (vI p.Repeat)]))], (.agg [(vS p.Name), (.p (.sl false 3 (p.Steps.map D.PolicyStep.cells))), (vI p.Repeat)]), [], []⟩),
      (some 87, ⟨[(14, (vI zmi))], [], (vI zmi), [], []⟩),
      (some 88, ⟨[(86, (.agg [(vS p.Name), (.p (.sl false 3 (p.Steps.map D.PolicyStep.cells))), (vI p.Repeat)])), (87, (vI zmi))], [], (.tup [(vI ((offset p zmi).1)), (vB ((offset p zmi).2))]), [], []⟩),
      (some 85, ⟨[(88, (.tup [(vI ((offset p zmi).1)), (vB ((offset p zmi).2))]))], [], (.tup [(vI ((offset p zmi).1)), (vB ((offset p zmi).2))]), [], []⟩),
      (some 89, ⟨[(85, (.tup [(vI ((offset p zmi).1)), (vB ((offset p zmi).2))]))], [], (vI ((offset p zmi).1)), [], []⟩),
      (some 90, ⟨[(85, (.tup [(vI ((offset p zmi).1)), (vB ((offset p zmi).2))]))], [], (vB ((offset p zmi).2)), [], []⟩),
      (some 23, ⟨[(89, (vI ((offset p zmi).1)))], [], (vI ((offset p zmi).1)), [], []⟩),
      (some 24, ⟨[(90, (vB ((offset p zmi).2)))], [], (vB ((offset p zmi).2)), [], []⟩)]
      ⟨StepOK.p rfl rfl rfl (OpOK.loadBoxAgg (z := 3) rfl rfl (by kernel_rfl) (by kernel_rfl) rfl rfl),
      StepOK.p rfl rfl rfl (OpOK.move rfl rfl),
      StepOK.p rfl rfl rfl (OpOK.call rfl (by kernel_rfl) rfl (ref_Offset p zmi (by first | omega | decide)) (by kernel_rfl)),
      StepOK.p rfl rfl rfl (OpOK.move rfl rfl),
      StepOK.p rfl rfl rfl (OpOK.extract rfl rfl rfl),
      StepOK.p rfl rfl rfl (OpOK.extract rfl rfl rfl),
      StepOK.p rfl rfl rfl (OpOK.assign rfl rfl),
      StepOK.p rfl rfl rfl (OpOK.assign rfl rfl), rfl⟩
      [(2, (vI k)), (3, (vI o)), (9, (.ref 1 0)), (12, (.ref 1012 0)), (15, (vI ((part p zmi).1))), (16, (vI ((part p zmi).2.1))), (17, (vB ((part p zmi).2.2))), (18, (vI ((part p zmi).1))), (19, (vI ((part p zmi).2.1))), (20, (vB ((part p zmi).2.2))), (21, (vI ((offset p zmi).1))), (22, (vB ((offset p zmi).2))), (23, (vI ((offset p zmi).1))), (24, (vB ((offset p zmi).2))), (47, (.p (.sl false 3 (ps.map D.Policy.cells)))), (48, (vI ((ps.length : Nat) : Int))), (49, (vI ((j : Nat) : Int))), (59, (.p (.sl true 1 [[(pI k)], [(pI (((nextN L i1 12 : Nat) : Int) - 1))], [(pI (count p))]]))), (60, (vI 3)), (61, (vI ((mi : Nat) : Int)))]
      [(1, (.box [(.p (.sl false 1 (L.map D.cInt))), (vI ((nextI L i1 12 : Nat) : Int))])), (1012, (.box [(vS p.Name), (.p (.sl false 3 (p.Steps.map D.PolicyStep.cells))), (vI p.Repeat)]))]
      (by kernel_rfl) ?_
     refine AWp.s_region hGn hGk 
      [(some 91, ⟨[(15, (vI ((part p zmi).1)))], [], (vI ((part p zmi).1)), [], []⟩),
      (some 92, ⟨[(18, (vI ((part p zmi).1)))], [], (vI ((part p zmi).1)), [], []⟩),
      (some 93, ⟨[(91, (vI ((part p zmi).1))), (92, (vI ((part p zmi).1)))], [], (vB false), [], []⟩),
      (some 94, ⟨[(93, (vB false))], [], (vB false), [], []⟩),
      (some 95, ⟨[(16, (vI ((part p zmi).2.1))), (94, (vB false))], [], (vI ((part p zmi).2.1)), [], []⟩),
      (some 96, ⟨[(19, (vI ((part p zmi).2.1))), (94, (vB false))], [], (vI ((part p zmi).2.1)), [], []⟩),
      (some 97, ⟨[(95, (vI ((part p zmi).2.1))), (96, (vI ((part p zmi).2.1))), (94, (vB false))], [], (vB false), [], []⟩),
      (some 98, ⟨[(94, (vB false)), (97, (vB false))], [], (vB false), [], []⟩),
      (some 99, ⟨[(98, (vB false))], [], (vB false), [], []⟩),
      (some 100, ⟨[(17, (vB ((part p zmi).2.2))), (99, (vB false))], [], (vB ((part p zmi).2.2)), [], []⟩),
      (some 101, ⟨[(20, (vB ((part p zmi).2.2))), (99, (vB false))], [], (vB ((part p zmi).2.2)), [], []⟩),
      (some 102, ⟨[(100, (vB ((part p zmi).2.2))), (101, (vB ((part p zmi).2.2))), (99, (vB false))], [], (vB false), [], []⟩),
      (some 103, ⟨[(99, (vB false)), (102, (vB false))], [], (vB false), [], []⟩),
      (some 104, ⟨[(103, (vB false))], [], (vB false), [], []⟩),
      (some 105, ⟨[(21, (vI ((offset p zmi).1))), (104, (vB false))], [], (vI ((offset p zmi).1)), [], []⟩),
      (some 106, ⟨[(23, (vI ((offset p zmi).1))), (104, (vB false))], [], (vI ((offset p zmi).1)), [], []⟩),
      (some 107, ⟨[(105, (vI ((offset p zmi).1))), (106, (vI ((offset p zmi).1))), (104, (vB false))], [], (vB false), [], []⟩),
      (some 108, ⟨[(104, (vB false)), (107, (vB false))], [], (vB false), [], []⟩),
      (some 109, ⟨[(108, (vB false))], [], (vB false), [], []⟩),
      (some 110, ⟨[(22, (vB ((offset p zmi).2))), (109, (vB false))], [], (vB ((offset p zmi).2)), [], []⟩),
      (some 111, ⟨[(24, (vB ((offset p zmi).2))), (109, (vB false))], [], (vB ((offset p zmi).2)), [], []⟩),
      (some 112, ⟨[(110, (vB ((offset p zmi).2))), (111, (vB ((offset p zmi).2))), (109, (vB false))], [], (vB false), [], []⟩),
      (some 113, ⟨[(109, (vB false)), (112, (vB false))], [], (vB false), [], []⟩)]
      ⟨StepOK.p rfl rfl rfl (OpOK.move rfl rfl),
      StepOK.p rfl rfl rfl (OpOK.move rfl rfl),
      StepOK.p rfl rfl rfl (OpOK.neqI rfl rfl rfl (decide_eq_false (fun h => h rfl))),
      StepOK.p rfl rfl rfl (OpOK.move rfl rfl),
      StepOK.g rfl rfl rfl rfl rfl (by simp) (OpOK.move rfl rfl),
      StepOK.g rfl rfl rfl rfl rfl (by simp) (OpOK.move rfl rfl),
      StepOK.g rfl rfl rfl rfl rfl (by simp) (OpOK.neqI rfl rfl rfl (decide_eq_false (fun h => h rfl))),
      StepOK.p rfl rfl rfl (OpOK.pickF rfl rfl rfl),
      StepOK.p rfl rfl rfl (OpOK.move rfl rfl),
      StepOK.g rfl rfl rfl rfl rfl (by simp) (OpOK.move rfl rfl),
      StepOK.g rfl rfl rfl rfl rfl (by simp) (OpOK.move rfl rfl),
      StepOK.g rfl rfl rfl rfl rfl (by simp) (OpOK.neqB rfl (by kernel_rfl) rfl rfl (decide_eq_false (fun h => h rfl))),
      StepOK.p rfl rfl rfl (OpOK.pickF rfl rfl rfl),
      StepOK.p rfl rfl rfl (OpOK.move rfl rfl),
      StepOK.g rfl rfl rfl rfl rfl (by simp) (OpOK.move rfl rfl),
      StepOK.g rfl rfl rfl rfl rfl (by simp) (OpOK.move rfl rfl),
      StepOK.g rfl rfl rfl rfl rfl (by simp) (OpOK.neqI rfl rfl rfl (decide_eq_false (fun h => h rfl))),
      StepOK.p rfl rfl rfl (OpOK.pickF rfl rfl rfl),
      StepOK.p rfl rfl rfl (OpOK.move rfl rfl),
      StepOK.g rfl rfl rfl rfl rfl (by simp) (OpOK.move rfl rfl),
      StepOK.g rfl rfl rfl rfl rfl (by simp) (OpOK.move rfl rfl),
      StepOK.g rfl rfl rfl rfl rfl (by simp) (OpOK.neqB rfl (by kernel_rfl) rfl rfl (decide_eq_false (fun h => h rfl))),
      StepOK.p rfl rfl rfl (OpOK.pickF rfl rfl rfl), rfl⟩
      [(2, (vI k)), (3, (vI o)), (9, (.ref 1 0)), (12, (.ref 1012 0)), (47, (.p (.sl false 3 (ps.map D.Policy.cells)))), (48, (vI ((ps.length : Nat) : Int))), (49, (vI ((j : Nat) : Int))), (59, (.p (.sl true 1 [[(pI k)], [(pI (((nextN L i1 12 : Nat) : Int) - 1))], [(pI (count p))]]))), (60, (vI 3)), (61, (vI ((mi : Nat) : Int))), (113, (vB false))]
      [(1, (.box [(.p (.sl false 1 (L.map D.cInt))), (vI ((nextI L i1 12 : Nat) : Int))])), (1012, (.box [(vS p.Name), (.p (.sl false 3 (p.Steps.map D.PolicyStep.cells))), (vI p.Repeat)]))]
      (by kernel_rfl) ?_
     refine AWp.cond_false rfl ?_
     refine AWp.skip ?_
     refine blockQ_normal ?_
     refine nextQ_normal ?_
     refine AWp.region' hGn hGk 
      [(some 114, ⟨[(61, (vI ((mi : Nat) : Int)))], [], (vI ((mi + 1 : Nat) : Int)), [], []⟩),
      (some 61, ⟨[(114, (vI ((mi + 1 : Nat) : Int)))], [], (vI ((mi + 1 : Nat) : Int)), [], []⟩)]
      ⟨StepOK.p rfl rfl rfl (OpOK.add rfl rfl rfl (by rw [IntWalk.i64_in _ ⟨by omega, by omega⟩]; omega)),
      StepOK.p rfl rfl rfl (OpOK.move rfl rfl), rfl⟩
      [(2, (vI k)), (3, (vI o)), (9, (.ref 1 0)), (12, (.ref 1012 0)), (47, (.p (.sl false 3 (ps.map D.Policy.cells)))), (48, (vI ((ps.length : Nat) : Int))), (49, (vI ((j : Nat) : Int))), (59, (.p (.sl true 1 [[(pI k)], [(pI (((nextN L i1 12 : Nat) : Int) - 1))], [(pI (count p))]]))), (60, (vI 3)), (61, (vI ((mi + 1 : Nat) : Int)))]
      [(1, (.box [(.p (.sl false 1 (L.map D.cInt))), (vI ((nextI L i1 12 : Nat) : Int))])), (1012, (.box [(vS p.Name), (.p (.sl false 3 (p.Steps.map D.PolicyStep.cells))), (vI p.Repeat)]))]
      (by kernel_rfl) ?_
     refine nextQ_normal ⟨_, ?_, (mi + 1), rfl, (by omega), rfl⟩
     · omega
    ·skip
     replace hc7 := of_decide_eq_false hc7
     refine AWp.weaken (mk [(2, (vI k)), (3, (vI o)), (9, (.ref 1 0)), (12, (.ref 1012 0)), (47, (.p (.sl false 3 (ps.map D.Policy.cells)))), (48, (vI ((ps.length : Nat) : Int))), (49, (vI ((j : Nat) : Int)))] [(1, (.box [(.p (.sl false 1 (L.map D.cInt))), (vI ((nextI L i1 12 : Nat) : Int))])), (1012, (.box [(vS p.Name), (.p (.sl false 3 (p.Steps.map D.PolicyStep.cells))), (vI p.Repeat)]))]) (Weak.sub' hGk (by kernel_rfl)) ?_
     refine AWp.exit ?_
     refine nextQ_exit ?_
     refine nextQ_exit ?_
     refine blockQ_exit ?_
     refine nextQ_normal ?_
     refine AWp.seq ?_
     have hf8 := nextN_lt L (nextI L i1 12) 3000 (by omega)
     refine AWp.s_region hGn hGk 
      [(some 115, ⟨[(3, (vI o))], [], (vI o), [], []⟩),
      (some 116, ⟨[(9, (.ref 1 0))], [], (.ref 1 0), [], []⟩),
      (some 117, ⟨[(116, (.ref 1 0))], [(1, (.box [(.p (.sl false 1 (L.map D.cInt))), (vI ((nextI L i1 12 : Nat) : Int))]))], (vI ((nextN L (nextI L i1 12) 3000 : Nat) : Int)), [(1, (.box [(.p (.sl false 1 (L.map D.cInt))), (vI ((nextI L (nextI L i1 12) 3000 : Nat) : Int))]))], []⟩),
      (some 118, ⟨[(115, (vI o)), (117, (vI ((nextN L (nextI L i1 12) 3000 : Nat) : Int)))], [], (.p (.sl true 1 [[(pI o)], [(pI ((nextN L (nextI L i1 12) 3000 : Nat) : Int))], [(pI 0)]])), [], []⟩),
      (some 119, ⟨[(118, (.p (.sl true 1 [[(pI o)], [(pI ((nextN L (nextI L i1 12) 3000 : Nat) : Int))], [(pI 0)]])))], [], (vI 3), [], []⟩),
      (some 120, ⟨[], [], (vI 0), [], []⟩)]
      ⟨StepOK.p rfl rfl rfl (OpOK.move rfl rfl),
      StepOK.p rfl rfl rfl (OpOK.move rfl rfl),
      StepOK.p rfl rfl rfl (OpOK.call rfl (by kernel_rfl) rfl (made_Next L (nextI L i1 12) 3000 hL (by repeat (first | assumption | exact Nat.zero_le _ | apply nextI_le | apply oneI_le | apply targetI_le | apply teamI_le | apply stepI_le | apply policyI_le)) (by omega)) (by kernel_rfl)),
      StepOK.p rfl rfl rfl (OpOK.buildSlice (e := 3) (zr := [(pI 0)]) rfl (by kernel_rfl) (by kernel_rfl) (by kernel_rfl) (by kernel_rfl) rfl (by kernel_rfl) rfl),
      StepOK.p rfl rfl rfl (OpOK.lenP (e := 3) rfl rfl (by kernel_rfl) rfl rfl),
      StepOK.p rfl rfl rfl (OpOK.move rfl rfl), rfl⟩
      [(2, (vI k)), (3, (vI o)), (9, (.ref 1 0)), (12, (.ref 1012 0)), (47, (.p (.sl false 3 (ps.map D.Policy.cells)))), (48, (vI ((ps.length : Nat) : Int))), (49, (vI ((j : Nat) : Int))), (118, (.p (.sl true 1 [[(pI o)], [(pI ((nextN L (nextI L i1 12) 3000 : Nat) : Int))], [(pI 0)]]))), (119, (vI 3)), (120, (vI 0))]
      [(1, (.box [(.p (.sl false 1 (L.map D.cInt))), (vI ((nextI L (nextI L i1 12) 3000 : Nat) : Int))])), (1012, (.box [(vS p.Name), (.p (.sl false 3 (p.Steps.map D.PolicyStep.cells))), (vI p.Repeat)]))]
      (by kernel_rfl) ?_
     refine AWp.block ?_
     refine AWp.loop (fun m s => ∃ ni, s = (mk [(2, (vI k)), (3, (vI o)), (9, (.ref 1 0)), (12, (.ref 1012 0)), (47, (.p (.sl false 3 (ps.map D.Policy.cells)))), (48, (vI ((ps.length : Nat) : Int))), (49, (vI ((j : Nat) : Int))), (118, (.p (.sl true 1 [[(pI o)], [(pI ((nextN L (nextI L i1 12) 3000 : Nat) : Int))], [(pI 0)]]))), (119, (vI 3)), (120, (vI ((ni : Nat) : Int)))] [(1, (.box [(.p (.sl false 1 (L.map D.cInt))), (vI ((nextI L (nextI L i1 12) 3000 : Nat) : Int))])), (1012, (.box [(vS p.Name), (.p (.sl false 3 (p.Steps.map D.PolicyStep.cells))), (vI p.Repeat)]))]) ∧ (ni ≤ 3) ∧ m = (3 - ni))
      ⟨_, 0, rfl, (by omega), rfl⟩ ?_
     rintro mm9 s ⟨ni, rfl, hni, hmm9⟩
     refine AWp.s_region hGn hGk 
      [(some 121, ⟨[(120, (vI ((ni : Nat) : Int))), (119, (vI 3))], [], (vB (decide (((ni : Nat) : Int) < (3 : Int)))), [], []⟩)]
      ⟨StepOK.p rfl rfl rfl (OpOK.lss rfl rfl rfl rfl), rfl⟩
      [(2, (vI k)), (3, (vI o)), (9, (.ref 1 0)), (12, (.ref 1012 0)), (47, (.p (.sl false 3 (ps.map D.Policy.cells)))), (48, (vI ((ps.length : Nat) : Int))), (49, (vI ((j : Nat) : Int))), (118, (.p (.sl true 1 [[(pI o)], [(pI ((nextN L (nextI L i1 12) 3000 : Nat) : Int))], [(pI 0)]]))), (119, (vI 3)), (120, (vI ((ni : Nat) : Int))), (121, (vB (decide (((ni : Nat) : Int) < (3 : Int)))))]
      [(1, (.box [(.p (.sl false 1 (L.map D.cInt))), (vI ((nextI L (nextI L i1 12) 3000 : Nat) : Int))])), (1012, (.box [(vS p.Name), (.p (.sl false 3 (p.Steps.map D.PolicyStep.cells))), (vI p.Repeat)]))]
      (by kernel_rfl) ?_
     refine AWp.seq ?_
     refine AWp.cond (decide (((ni : Nat) : Int) < (3 : Int))) rfl (fun hc10 => ?_) (fun hc10 => ?_)
     ·skip
      replace hc10 := of_decide_eq_true hc10
      refine AWp.skip ?_
      refine nextQ_normal ?_
      refine AWp.seq ?_
      refine AWp.block ?_
      refine AWp.s_region hGn hGk 
       [(some 122, ⟨[(118, (.p (.sl true 1 [[(pI o)], [(pI ((nextN L (nextI L i1 12) 3000 : Nat) : Int))], [(pI 0)]]))), (120, (vI ((ni : Nat) : Int)))], [], (.eptr [(pI (nth ([o, ((nextN L (nextI L i1 12) 3000 : Nat) : Int), 0] : List Int) ni))]), [], []⟩),
       (some 123, ⟨[(122, (.eptr [(pI (nth ([o, ((nextN L (nextI L i1 12) 3000 : Nat) : Int), 0] : List Int) ni))]))], [], (vI (nth ([o, ((nextN L (nextI L i1 12) 3000 : Nat) : Int), 0] : List Int) ni)), [], []⟩),
       (some 26, ⟨[(123, (vI (nth ([o, ((nextN L (nextI L i1 12) 3000 : Nat) : Int), 0] : List Int) ni)))], [], (vI (nth ([o, ((nextN L (nextI L i1 12) 3000 : Nat) : Int), 0] : List Int) ni)), [], []⟩)]
       ⟨StepOK.p rfl rfl rfl (OpOK.indexP (e := 3) rfl (by kernel_rfl) (by kernel_rfl) rfl rfl rfl (map_nth (l := ([o, ((nextN L (nextI L i1 12) 3000 : Nat) : Int), 0] : List Int)) (f := D.cInt) (by simp only [List.length_cons, List.length_nil]; omega))),
       StepOK.p rfl rfl rfl (OpOK.loadPtr rfl rfl (by kernel_rfl) rfl),
       StepOK.p rfl rfl rfl (OpOK.assign rfl rfl), rfl⟩
       [(2, (vI k)), (3, (vI o)), (9, (.ref 1 0)), (12, (.ref 1012 0)), (26, (vI (nth ([o, ((nextN L (nextI L i1 12) 3000 : Nat) : Int), 0] : List Int) ni))), (47, (.p (.sl false 3 (ps.map D.Policy.cells)))), (48, (vI ((ps.length : Nat) : Int))), (49, (vI ((j : Nat) : Int))), (118, (.p (.sl true 1 [[(pI o)], [(pI ((nextN L (nextI L i1 12) 3000 : Nat) : Int))], [(pI 0)]]))), (119, (vI 3)), (120, (vI ((ni : Nat) : Int)))]
       [(1, (.box [(.p (.sl false 1 (L.map D.cInt))), (vI ((nextI L (nextI L i1 12) 3000 : Nat) : Int))])), (1012, (.box [(vS p.Name), (.p (.sl false 3 (p.Steps.map D.PolicyStep.cells))), (vI p.Repeat)]))]
       (by kernel_rfl) ?_
      obtain ⟨zni, hzni⟩ : ∃ zni, nth ([o, ((nextN L (nextI L i1 12) 3000 : Nat) : Int), 0] : List Int) ni = zni := ⟨_, rfl⟩
      rw [show (mk [(2, (vI k)), (3, (vI o)), (9, (.ref 1 0)), (12, (.ref 1012 0)), (26, (vI (nth ([o, ((nextN L (nextI L i1 12) 3000 : Nat) : Int), 0] : List Int) ni))), (47, (.p (.sl false 3 (ps.map D.Policy.cells)))), (48, (vI ((ps.length : Nat) : Int))), (49, (vI ((j : Nat) : Int))), (118, (.p (.sl true 1 [[(pI o)], [(pI ((nextN L (nextI L i1 12) 3000 : Nat) : Int))], [(pI 0)]]))), (119, (vI 3)), (120, (vI ((ni : Nat) : Int)))] [(1, (.box [(.p (.sl false 1 (L.map D.cInt))), (vI ((nextI L (nextI L i1 12) 3000 : Nat) : Int))])), (1012, (.box [(vS p.Name), (.p (.sl false 3 (p.Steps.map D.PolicyStep.cells))), (vI p.Repeat)]))]) = (mk [(2, (vI k)), (3, (vI o)), (9, (.ref 1 0)), (12, (.ref 1012 0)), (26, (vI zni)), (47, (.p (.sl false 3 (ps.map D.Policy.cells)))), (48, (vI ((ps.length : Nat) : Int))), (49, (vI ((j : Nat) : Int))), (118, (.p (.sl true 1 [[(pI o)], [(pI ((nextN L (nextI L i1 12) 3000 : Nat) : Int))], [(pI 0)]]))), (119, (vI 3)), (120, (vI ((ni : Nat) : Int)))] [(1, (.box [(.p (.sl false 1 (L.map D.cInt))), (vI ((nextI L (nextI L i1 12) 3000 : Nat) : Int))])), (1012, (.box [(vS p.Name), (.p (.sl false 3 (p.Steps.map D.PolicyStep.cells))), (vI p.Repeat)]))]) from by rw [hzni]]
      refine AWp.s_draw hGn hGk (by kernel_rfl)
       [(some 124, ⟨[(12, (.ref 1012 0))], [(1012, (.box [(vS p.Name), (.p (.sl false 3 (p.Steps.map D.PolicyStep.cells))), (vI p.Repeat)]))], (.agg [(vS p.Name), (.p (.sl false 3 (p.Steps.map D.PolicyStep.cells))), (vI p.Repeat)]), [], []⟩),
       (some 125, ⟨[(26, (vI zni))], [], (vI zni), [], []⟩),
       (some 126, ⟨[(124, (.agg [(vS p.Name), (.p (.sl false 3 (p.Steps.map D.PolicyStep.cells))), (vI p.Repeat)])), (125, (vI zni))], [], (vI ((started p zni : Nat) : Int)), [], []⟩),
       (some 127, ⟨[(12, (.ref 1012 0))], [(1012, (.box [(vS p.Name), (.p (.sl false 3 (p.Steps.map D.PolicyStep.cells))), (vI p.Repeat)]))], (.agg [(vS p.Name), (.p (.sl false 3 (p.Steps.map D.PolicyStep.cells))), (vI p.Repeat)]), [], []⟩),
       (some 128, ⟨[(26, (vI zni))], [], (vI zni), [], []⟩),
       (some 129, ⟨[(127, (.agg [(vS p.Name), (.p (.sl false 3 (p.Steps.map D.PolicyStep.cells))), (vI p.Repeat)])), (128, (vI zni))], [], (vI ((started p zni : Nat) : Int)), [], []⟩),
       (some 130, ⟨[(126, (vI ((started p zni : Nat) : Int))), (129, (vI ((started p zni : Nat) : Int)))], [], (vB false), [], []⟩)]
       ⟨StepOK.p rfl rfl rfl (OpOK.loadBoxAgg (z := 3) rfl rfl (by kernel_rfl) (by kernel_rfl) rfl rfl),
       StepOK.p rfl rfl rfl (OpOK.move rfl rfl),
       StepOK.p rfl rfl rfl (OpOK.call rfl (by kernel_rfl) rfl (pol_Started p zni (by first | omega | decide)) (by kernel_rfl)),
       StepOK.p rfl rfl rfl (OpOK.loadBoxAgg (z := 3) rfl rfl (by kernel_rfl) (by kernel_rfl) rfl rfl),
       StepOK.p rfl rfl rfl (OpOK.move rfl rfl),
       StepOK.p rfl rfl rfl (OpOK.call rfl (by kernel_rfl) rfl (ref_Started p zni (by first | omega | decide)) (by kernel_rfl)),
       StepOK.p rfl rfl rfl (OpOK.neqI rfl rfl rfl (decide_eq_false (fun h => h rfl))), rfl⟩
       [(2, (vI k)), (3, (vI o)), (9, (.ref 1 0)), (12, (.ref 1012 0)), (47, (.p (.sl false 3 (ps.map D.Policy.cells)))), (48, (vI ((ps.length : Nat) : Int))), (49, (vI ((j : Nat) : Int))), (118, (.p (.sl true 1 [[(pI o)], [(pI ((nextN L (nextI L i1 12) 3000 : Nat) : Int))], [(pI 0)]]))), (119, (vI 3)), (120, (vI ((ni : Nat) : Int))), (130, (vB false))]
       [(1, (.box [(.p (.sl false 1 (L.map D.cInt))), (vI ((nextI L (nextI L i1 12) 3000 : Nat) : Int))])), (1012, (.box [(vS p.Name), (.p (.sl false 3 (p.Steps.map D.PolicyStep.cells))), (vI p.Repeat)]))]
       (by kernel_rfl) (by kernel_rfl) ?_
      refine AWp.cond_false rfl ?_
      refine AWp.skip ?_
      refine blockQ_normal ?_
      refine nextQ_normal ?_
      refine AWp.region' hGn hGk 
       [(some 131, ⟨[(120, (vI ((ni : Nat) : Int)))], [], (vI ((ni + 1 : Nat) : Int)), [], []⟩),
       (some 120, ⟨[(131, (vI ((ni + 1 : Nat) : Int)))], [], (vI ((ni + 1 : Nat) : Int)), [], []⟩)]
       ⟨StepOK.p rfl rfl rfl (OpOK.add rfl rfl rfl (by rw [IntWalk.i64_in _ ⟨by omega, by omega⟩]; omega)),
       StepOK.p rfl rfl rfl (OpOK.move rfl rfl), rfl⟩
       [(2, (vI k)), (3, (vI o)), (9, (.ref 1 0)), (12, (.ref 1012 0)), (47, (.p (.sl false 3 (ps.map D.Policy.cells)))), (48, (vI ((ps.length : Nat) : Int))), (49, (vI ((j : Nat) : Int))), (118, (.p (.sl true 1 [[(pI o)], [(pI ((nextN L (nextI L i1 12) 3000 : Nat) : Int))], [(pI 0)]]))), (119, (vI 3)), (120, (vI ((ni + 1 : Nat) : Int)))]
       [(1, (.box [(.p (.sl false 1 (L.map D.cInt))), (vI ((nextI L (nextI L i1 12) 3000 : Nat) : Int))])), (1012, (.box [(vS p.Name), (.p (.sl false 3 (p.Steps.map D.PolicyStep.cells))), (vI p.Repeat)]))]
       (by kernel_rfl) ?_
      refine nextQ_normal ⟨_, ?_, (ni + 1), rfl, (by omega), rfl⟩
      · omega
     ·skip
      replace hc10 := of_decide_eq_false hc10
      refine AWp.weaken (mk [(2, (vI k)), (3, (vI o)), (9, (.ref 1 0)), (12, (.ref 1012 0)), (47, (.p (.sl false 3 (ps.map D.Policy.cells)))), (48, (vI ((ps.length : Nat) : Int))), (49, (vI ((j : Nat) : Int)))] [(1, (.box [(.p (.sl false 1 (L.map D.cInt))), (vI ((nextI L (nextI L i1 12) 3000 : Nat) : Int))])), (1012, (.box [(vS p.Name), (.p (.sl false 3 (p.Steps.map D.PolicyStep.cells))), (vI p.Repeat)]))]) (Weak.sub' hGk (by kernel_rfl)) ?_
      refine AWp.exit ?_
      refine nextQ_exit ?_
      refine nextQ_exit ?_
      refine blockQ_exit ?_
      refine nextQ_normal ?_
      refine AWp.s_draw hGn hGk (by kernel_rfl)
       [(some 132, ⟨[(12, (.ref 1012 0))], [(1012, (.box [(vS p.Name), (.p (.sl false 3 (p.Steps.map D.PolicyStep.cells))), (vI p.Repeat)]))], (.agg [(vS p.Name), (.p (.sl false 3 (p.Steps.map D.PolicyStep.cells))), (vI p.Repeat)]), [], []⟩),
       (some 133, ⟨[(132, (.agg [(vS p.Name), (.p (.sl false 3 (p.Steps.map D.PolicyStep.cells))), (vI p.Repeat)]))], [], (vI (count p)), [], []⟩),
       (some 134, ⟨[(12, (.ref 1012 0))], [(1012, (.box [(vS p.Name), (.p (.sl false 3 (p.Steps.map D.PolicyStep.cells))), (vI p.Repeat)]))], (.agg [(vS p.Name), (.p (.sl false 3 (p.Steps.map D.PolicyStep.cells))), (vI p.Repeat)]), [], []⟩),
       (some 135, ⟨[(134, (.agg [(vS p.Name), (.p (.sl false 3 (p.Steps.map D.PolicyStep.cells))), (vI p.Repeat)]))], [], (vI (count p)), [], []⟩),
       (some 136, ⟨[(133, (vI (count p))), (135, (vI (count p)))], [], (vB false), [], []⟩),
       (some 137, ⟨[(136, (vB false))], [], (vB false), [], []⟩),
       (some 138, ⟨[(12, (.ref 1012 0)), (137, (vB false))], [(1012, (.box [(vS p.Name), (.p (.sl false 3 (p.Steps.map D.PolicyStep.cells))), (vI p.Repeat)]))], (.agg [(vS p.Name), (.p (.sl false 3 (p.Steps.map D.PolicyStep.cells))), (vI p.Repeat)]), [], []⟩),
       (some 139, ⟨[(138, (.agg [(vS p.Name), (.p (.sl false 3 (p.Steps.map D.PolicyStep.cells))), (vI p.Repeat)])), (137, (vB false))], [], (vI ((offset p (count p)).1)), [], []⟩),
       (some 140, ⟨[(12, (.ref 1012 0)), (137, (vB false))], [(1012, (.box [(vS p.Name), (.p (.sl false 3 (p.Steps.map D.PolicyStep.cells))), (vI p.Repeat)]))], (.agg [(vS p.Name), (.p (.sl false 3 (p.Steps.map D.PolicyStep.cells))), (vI p.Repeat)]), [], []⟩),
       (some 141, ⟨[(140, (.agg [(vS p.Name), (.p (.sl false 3 (p.Steps.map D.PolicyStep.cells))), (vI p.Repeat)])), (137, (vB false))], [], (vI ((offset p (count p)).1)), [], []⟩),
       (some 142, ⟨[(139, (vI ((offset p (count p)).1))), (141, (vI ((offset p (count p)).1))), (137, (vB false))], [], (vB false), [], []⟩),
       (some 143, ⟨[(137, (vB false)), (142, (vB false))], [], (vB false), [], []⟩)]
       ⟨StepOK.p rfl rfl rfl (OpOK.loadBoxAgg (z := 3) rfl rfl (by kernel_rfl) (by kernel_rfl) rfl rfl),
       StepOK.p rfl rfl rfl (OpOK.call rfl (by kernel_rfl) rfl (pol_Count p (by first | omega | decide)) (by kernel_rfl)),
       StepOK.p rfl rfl rfl (OpOK.loadBoxAgg (z := 3) rfl rfl (by kernel_rfl) (by kernel_rfl) rfl rfl),
       StepOK.p rfl rfl rfl (OpOK.call rfl (by kernel_rfl) rfl (ref_Count p (by first | omega | decide)) (by kernel_rfl)),
       StepOK.p rfl rfl rfl (OpOK.neqI rfl rfl rfl (decide_eq_false (fun h => h rfl))),
       StepOK.p rfl rfl rfl (OpOK.move rfl rfl),
       StepOK.g rfl rfl rfl rfl rfl (by simp) (OpOK.loadBoxAgg (z := 3) rfl rfl (by kernel_rfl) (by kernel_rfl) rfl rfl),
       StepOK.g rfl rfl rfl rfl rfl (by simp) (OpOK.call rfl (by kernel_rfl) rfl (pol_End p (by first | omega | decide)) (by kernel_rfl)),
       StepOK.g rfl rfl rfl rfl rfl (by simp) (OpOK.loadBoxAgg (z := 3) rfl rfl (by kernel_rfl) (by kernel_rfl) rfl rfl),
       StepOK.g rfl rfl rfl rfl rfl (by simp) (OpOK.call rfl (by kernel_rfl) rfl (ref_End p (by first | omega | decide)) (by kernel_rfl)),
       StepOK.g rfl rfl rfl rfl rfl (by simp) (OpOK.neqI rfl rfl rfl (decide_eq_false (fun h => h rfl))),
       StepOK.p rfl rfl rfl (OpOK.pickF rfl rfl rfl), rfl⟩
       [(2, (vI k)), (3, (vI o)), (9, (.ref 1 0)), (47, (.p (.sl false 3 (ps.map D.Policy.cells)))), (48, (vI ((ps.length : Nat) : Int))), (49, (vI ((j : Nat) : Int))), (143, (vB false))]
       [(1, (.box [(.p (.sl false 1 (L.map D.cInt))), (vI ((nextI L (nextI L i1 12) 3000 : Nat) : Int))]))]
       (by kernel_rfl) (by kernel_rfl) ?_
      refine AWp.cond_false rfl ?_
      refine AWp.skip ?_
      refine blockQ_normal ?_
      refine nextQ_normal ?_
      refine AWp.region' hGn hGk 
       [(some 144, ⟨[(49, (vI ((j : Nat) : Int)))], [], (vI ((j + 1 : Nat) : Int)), [], []⟩),
       (some 49, ⟨[(144, (vI ((j + 1 : Nat) : Int)))], [], (vI ((j + 1 : Nat) : Int)), [], []⟩)]
       ⟨StepOK.p rfl rfl rfl (OpOK.add rfl rfl rfl (by rw [IntWalk.i64_in _ ⟨by omega, by omega⟩]; omega)),
       StepOK.p rfl rfl rfl (OpOK.move rfl rfl), rfl⟩
       [(2, (vI k)), (3, (vI o)), (9, (.ref 1 0)), (47, (.p (.sl false 3 (ps.map D.Policy.cells)))), (48, (vI ((ps.length : Nat) : Int))), (49, (vI ((j + 1 : Nat) : Int)))]
       [(1, (.box [(.p (.sl false 1 (L.map D.cInt))), (vI ((nextI L (nextI L i1 12) 3000 : Nat) : Int))]))]
       (by kernel_rfl) ?_
      refine nextQ_normal ⟨_, ?_, (j + 1), (nextI L (nextI L i1 12) 3000), rfl, (by omega), (by repeat (first | assumption | exact Nat.zero_le _ | apply nextI_le | apply oneI_le | apply targetI_le | apply teamI_le | apply stepI_le | apply policyI_le)), rfl⟩
      · omega
   ·skip
    replace hc4 := of_decide_eq_false hc4
    refine AWp.weaken (mk [] []) (Weak.sub' hGk (by kernel_rfl)) ?_
    refine AWp.exit ?_
    refine nextQ_exit ?_
    refine nextQ_exit ?_
    refine blockQ_exit ?_
    refine nextQ_normal ?_
    refine AWp.s_region hGn hGk 
     [(some 145, ⟨[], [], (vB true), [], []⟩),
     (some 8, ⟨[(145, (vB true))], [], (vB true), [], []⟩)]
     ⟨StepOK.p rfl rfl rfl (OpOK.call rfl (by kernel_rfl) rfl law_sane (by kernel_rfl)),
     StepOK.p rfl rfl rfl (OpOK.assign rfl rfl), rfl⟩
     [(8, (vB true))]
     []
     (by kernel_rfl) ?_
    refine AWp.ret ?_
    refine fin_of (.inr rfl) (v := (vB true)) (Res.tmp rfl rfl) (h' := []) rfl rfl ?_
    exact ⟨rfl, rfl⟩
 ·skip
  refine AWp.s_region hGn hGk 
   [(some 27, ⟨[(0, (.p (.sl false 1 (L.map D.cInt))))], [], (.p (.sl false 1 (L.map D.cInt))), [], []⟩),
   (some 28, ⟨[(27, (.p (.sl false 1 (L.map D.cInt))))], [], (vB false), [], []⟩),
   (some 29, ⟨[(28, (vB false))], [], (vB true), [], []⟩),
   (some 30, ⟨[(29, (vB true))], [], (vB true), [], []⟩),
   (some 31, ⟨[(30, (vB true))], [], (.tup []), [], []⟩),
   (some 32, ⟨[(30, (vB true))], [], (.tup []), [], []⟩),
   (some 33, ⟨[(30, (vB true))], [], (.tup []), [], []⟩),
   (some 34, ⟨[(30, (vB true))], [], (.tup []), [], []⟩),
   (some 35, ⟨[(30, (vB true))], [], (vB true), [], []⟩)]
   ⟨StepOK.p rfl rfl rfl (OpOK.move rfl rfl),
   StepOK.p rfl rfl rfl (OpOK.call rfl (by kernel_rfl) rfl (by have hq := (made_Light L); rw [(decide_eq_false hs1)] at hq; exact hq) (by kernel_rfl)),
   StepOK.p rfl rfl rfl (OpOK.not rfl rfl rfl),
   StepOK.p rfl rfl rfl (OpOK.move rfl rfl),
   StepOK.k rfl rfl rfl rfl rfl rfl,
   StepOK.k rfl rfl rfl rfl rfl rfl,
   StepOK.k rfl rfl rfl rfl rfl rfl,
   StepOK.k rfl rfl rfl rfl rfl rfl,
   StepOK.p rfl rfl rfl (OpOK.pickT rfl rfl rfl), rfl⟩
   [(0, (.p (.sl false 1 (L.map D.cInt)))), (2, (vI k)), (3, (vI o)), (5, (.ref 1005 0)), (35, (vB true))]
   [(1005, (.box [(vS q.Name), (.p (.sl false 3 (q.Steps.map D.PolicyStep.cells))), (vI q.Repeat)]))]
   (by kernel_rfl) ?_
  refine AWp.cond_true rfl ?_
  refine AWp.s_region hGn hGk 
   [(some 36, ⟨[], [], (vB true), [], []⟩),
   (some 8, ⟨[(36, (vB true))], [], (vB true), [], []⟩)]
   ⟨StepOK.p rfl rfl rfl (OpOK.call rfl (by kernel_rfl) rfl law_sane (by kernel_rfl)),
   StepOK.p rfl rfl rfl (OpOK.assign rfl rfl), rfl⟩
   [(8, (vB true))]
   []
   (by kernel_rfl) ?_
  refine AWp.ret ?_
  refine nextQ_ret ?_
  refine fin_of (.inr rfl) (v := (vB true)) (Res.tmp rfl rfl) (h' := []) rfl rfl ?_
  exact ⟨rfl, rfl⟩
end Go.Proofs.Yteccnpkpjaknkaa
