/-
  The walk of PolicyGrows. Printed by wip/gen/pol.py.
-/
import Derived.Test.YteccnpkpjaknkaaPolWalk
import Derived.Test.YteccnpkpjaknkaaGrowLaw
set_option maxRecDepth 100000
set_option linter.unusedSimpArgs false
set_option linter.unusedVariables false
namespace Go.Proofs.Yteccnpkpjaknkaa
open Go AM
theorem more_Offset (p : D.Policy) (k : Nat) (hg : Good p) (h2 : p.Repeat ≤ 2) (hk : (k : Int) ≤ count p) :
    SpecIs Try.prog 11 [(.agg [(vS p.Name), (.p (.sl false 3 (p.Steps.map D.PolicyStep.cells))), (vI (p.Repeat + 1))]), (vI ((k : Nat) : Int))] [] (.tup [(vI (offW p k)), (vB true)]) [] := by
  have h := pol_Offset_ok (moreOf p) k (hg.more h2) (by rw [hg.countMore h2]; omega)
  rw [offW_steps (p := moreOf p) (q := p) rfl] at h
  exact h
theorem more_End (p : D.Policy) (hg : Good p) (h2 : p.Repeat ≤ 2) : SpecIs Try.prog 12 [(.agg [(vS p.Name), (.p (.sl false 3 (p.Steps.map D.PolicyStep.cells))), (vI (p.Repeat + 1))])] [] (vI (offW p (count p).toNat + offW p p.Steps.length)) [] := by
  have h := pol_End (moreOf p) (by have := hg.len8; exact Nat.le_trans this (by decide))
  rw [hg.endMore h2] at h
  exact h
theorem more_Count (p : D.Policy) (hg : Good p) (h2 : p.Repeat ≤ 2) : SpecIs Try.prog 10 [(.agg [(vS p.Name), (.p (.sl false 3 (p.Steps.map D.PolicyStep.cells))), (vI (p.Repeat + 1))])] [] (vI (count p + ((p.Steps.length : Nat) : Int))) [] := by
  have h := pol_Count (moreOf p) (by have := hg.len8; exact Nat.le_trans this (by decide))
  rw [hg.countMore h2] at h
  exact h
theorem pol_Part_ok (p : D.Policy) (j : Nat) (hg : Good p) (hj : (j : Int) < count p) :
    SpecIs Try.prog 15 [(.agg [(vS p.Name), (.p (.sl false 3 (p.Steps.map D.PolicyStep.cells))), (vI p.Repeat)]), (vI ((j : Nat) : Int))] [] (.tup [(vI ((j % p.Steps.length : Nat) : Int)), (vI ((j / p.Steps.length : Nat) : Int)), (vB true)]) [] := by
  have h := pol_Part p j (by have := hg.len8; omega)
  rw [part_in hj] at h
  exact h

theorem law_PolicyGrows (L : List Int) (w : Int) (hw0 : 0 ≤ w) (hw1 : w ≤ 65535) :
    SpecIs Try.prog 4 [(.p (.sl false 1 (L.map D.cInt))), (vK .u16 w)] [] (vB true) [] := by
  refine Spec.intro Try.func4 rfl (by kernel_rfl) ?_
  intro Γ hGn hGk
  replace hGn : Γ.n = 176 := hGn
  replace hGk : Γ.names = [] := hGk
  refine AWp.weaken (mk [(0, (.p (.sl false 1 (L.map D.cInt)))), (1, (vK .u16 w))] []) (Weak.sub' hGk (by kernel_rfl)) ?_
  refine AWp.s_region hGn hGk 
      [(some 4, ⟨[], [], (vB false), [], []⟩)]
      ⟨StepOK.p rfl rfl rfl (OpOK.assign rfl rfl), rfl⟩
      [(0, (.p (.sl false 1 (L.map D.cInt)))), (1, (vK .u16 w))]
      []
      (by kernel_rfl) ?_
  refine AWp.seq ?_
  refine AWp.s_region hGn hGk 
      [(some 24, ⟨[(0, (.p (.sl false 1 (L.map D.cInt))))], [], (.p (.sl false 1 (L.map D.cInt))), [], []⟩),
      (some 25, ⟨[(24, (.p (.sl false 1 (L.map D.cInt))))], [], (vB (decide (((L.length : Nat) : Int) ≤ (500 : Int)))), [], []⟩),
      (some 26, ⟨[(25, (vB (decide (((L.length : Nat) : Int) ≤ (500 : Int)))))], [], (vB (!(decide (((L.length : Nat) : Int) ≤ (500 : Int))))), [], []⟩)]
      ⟨StepOK.p rfl rfl rfl (OpOK.move rfl rfl),
      StepOK.p rfl rfl rfl (OpOK.call rfl (by kernel_rfl) rfl (made_Light L) (by kernel_rfl)),
      StepOK.p rfl rfl rfl (OpOK.not rfl rfl rfl), rfl⟩
      [(0, (.p (.sl false 1 (L.map D.cInt)))), (1, (vK .u16 w)), (26, (vB (!(decide (((L.length : Nat) : Int) ≤ (500 : Int))))))]
      []
      (by kernel_rfl) ?_
  refine AWp.cond (!(decide (((L.length : Nat) : Int) ≤ (500 : Int)))) rfl (fun hc1 => ?_) (fun hc1 => ?_)
  · skip
    replace hc1 : decide (((L.length : Nat) : Int) ≤ (500 : Int)) = false := by simpa using hc1
    replace hc1 := of_decide_eq_false hc1
    refine AWp.s_region hGn hGk 
        [(some 27, ⟨[], [], (vB true), [], []⟩),
        (some 4, ⟨[(27, (vB true))], [], (vB true), [], []⟩)]
        ⟨StepOK.p rfl rfl rfl (OpOK.call rfl (by kernel_rfl) rfl law_sane (by kernel_rfl)),
        StepOK.p rfl rfl rfl (OpOK.assign rfl rfl), rfl⟩
        [(4, (vB true))]
        []
        (by kernel_rfl) ?_
    refine AWp.ret ?_
    refine nextQ_ret ?_
    refine fin_of (.inr rfl) (v := (vB true)) (Res.tmp rfl rfl) (h' := []) rfl rfl ?_
    exact ⟨rfl, rfl⟩
  · skip
    replace hc1 : decide (((L.length : Nat) : Int) ≤ (500 : Int)) = true := by simpa using hc1
    replace hc1 := of_decide_eq_true hc1
    refine AWp.skip ?_
    refine nextQ_normal ?_
    have hL : L.length ≤ 500 := by omega
    refine AWp.s_region hGn hGk 
        [(some 28, ⟨[(0, (.p (.sl false 1 (L.map D.cInt))))], [], (.p (.sl false 1 (L.map D.cInt))), [], []⟩),
        (some 29, ⟨[(28, (.p (.sl false 1 (L.map D.cInt))))], [], (.ref 1 0), [(1, (.box [(.p (.sl false 1 (L.map D.cInt))), (vI ((0 : Nat) : Int))]))], [1]⟩),
        (some 5, ⟨[(29, (.ref 1 0))], [], (.ref 1 0), [], []⟩)]
        ⟨StepOK.p rfl rfl rfl (OpOK.move rfl rfl),
        StepOK.p rfl rfl rfl (OpOK.call rfl (by kernel_rfl) rfl (made_Roll L) (by kernel_rfl)),
        StepOK.p rfl rfl rfl (OpOK.assign rfl rfl), rfl⟩
        [(1, (vK .u16 w)), (5, (.ref 1 0))]
        [(1, (.box [(.p (.sl false 1 (L.map D.cInt))), (vI ((0 : Nat) : Int))]))]
        (by kernel_rfl) ?_
    have hbg := book_good L 0
    obtain ⟨p, hp⟩ : ∃ p, nth (book L 0).Policies 0 = p := ⟨_, rfl⟩
    have hg : Good p := hp ▸ hbg.1 _ (nth_mem (by omega))
    have hr2 : p.Repeat ≤ 2 := hp ▸ book_rep L 0 _ (nth_mem (by omega))
    have hl1 := hg.len1
    have hl8 := hg.len8
    have hcl := count_le p
    have hr0 := hg.rep0
    obtain ⟨k, hk⟩ : ∃ k, nextN L (bookI L 0) ((p.Steps.length : Nat) : Int) = k := ⟨_, rfl⟩
    have hkl : k < p.Steps.length := by have := nextN_lt L (bookI L 0) ((p.Steps.length : Nat) : Int) (by omega); omega
    have hwk := inB_spec (List.all_eq_true.1 hg.waits _ (nth_mem hkl))
    refine AWp.s_region hGn hGk 
        [(some 30, ⟨[(5, (.ref 1 0))], [], (.ref 1 0), [], []⟩),
        (some 31, ⟨[(30, (.ref 1 0))], [(1, (.box [(.p (.sl false 1 (L.map D.cInt))), (vI ((0 : Nat) : Int))]))], (.agg [(.p (.sl false 2 (((book L 0).Teams).map D.Team.cells))), (.p (.sl false 3 (((book L 0).Policies).map D.Policy.cells)))]), [(1, (.box [(.p (.sl false 1 (L.map D.cInt))), (vI ((bookI L 0 : Nat) : Int))]))], []⟩),
        (some 32, ⟨[(31, (.agg [(.p (.sl false 2 (((book L 0).Teams).map D.Team.cells))), (.p (.sl false 3 (((book L 0).Policies).map D.Policy.cells)))]))], [], (.p (.sl false 3 (((book L 0).Policies).map D.Policy.cells))), [], []⟩),
        (some 33, ⟨[(32, (.p (.sl false 3 (((book L 0).Policies).map D.Policy.cells))))], [], (.eptr [(pS p.Name), (.sl false 3 (p.Steps.map D.PolicyStep.cells)), (pI p.Repeat)]), [], []⟩),
        (some 34, ⟨[(33, (.eptr [(pS p.Name), (.sl false 3 (p.Steps.map D.PolicyStep.cells)), (pI p.Repeat)]))], [], (.agg [(vS p.Name), (.p (.sl false 3 (p.Steps.map D.PolicyStep.cells))), (vI p.Repeat)]), [], []⟩),
        (some 6, ⟨[], [], (.ref 1006 0), [(1006, (.box [(vS (ByteArray.mk #[])), (.p (.sl true 0 [])), (vI 0)]))], [1006]⟩),
        (none, ⟨[(6, (.ref 1006 0)), (34, (.agg [(vS p.Name), (.p (.sl false 3 (p.Steps.map D.PolicyStep.cells))), (vI p.Repeat)]))], [(1006, (.box [(vS (ByteArray.mk #[])), (.p (.sl true 0 [])), (vI 0)]))], .any, [(1006, (.box [(vS p.Name), (.p (.sl false 3 (p.Steps.map D.PolicyStep.cells))), (vI p.Repeat)]))], []⟩)]
        ⟨StepOK.p rfl rfl rfl (OpOK.move rfl rfl),
        StepOK.p rfl rfl rfl (OpOK.call rfl (by kernel_rfl) rfl (made_Book L 0 hL (by repeat (first | assumption | exact Nat.zero_le _ | apply nextI_le | apply oneI_le | apply targetI_le | apply teamI_le | apply stepI_le | apply policyI_le))) (by kernel_rfl)),
        StepOK.p rfl rfl rfl (OpOK.fieldF (off := 1) rfl rfl (by kernel_rfl) rfl),
        StepOK.p rfl rfl rfl (OpOK.indexP (e := 35) rfl (by kernel_rfl) (by kernel_rfl) rfl rfl rfl (map_nth_eq hp hbg.2.1)),
        StepOK.p rfl rfl rfl (OpOK.loadPtrAgg (z := 3) (sub := [(pS p.Name), (.sl false 3 (p.Steps.map D.PolicyStep.cells)), (pI p.Repeat)]) rfl rfl (by kernel_rfl) (by kernel_rfl) rfl rfl rfl),
        StepOK.p rfl rfl rfl (OpOK.alloc rfl (by kernel_rfl)),
        StepOK.p rfl rfl rfl (OpOK.storeBox rfl rfl rfl rfl rfl (by kernel_rfl) (by kernel_rfl) rfl), rfl⟩
        [(1, (vK .u16 w)), (5, (.ref 1 0)), (6, (.ref 1006 0))]
        [(1, (.box [(.p (.sl false 1 (L.map D.cInt))), (vI ((bookI L 0 : Nat) : Int))])), (1006, (.box [(vS p.Name), (.p (.sl false 3 (p.Steps.map D.PolicyStep.cells))), (vI p.Repeat)]))]
        (by kernel_rfl) ?_
    refine AWp.s_region hGn hGk 
        [(some 35, ⟨[(6, (.ref 1006 0))], [(1006, (.box [(vS p.Name), (.p (.sl false 3 (p.Steps.map D.PolicyStep.cells))), (vI p.Repeat)]))], (.agg [(vS p.Name), (.p (.sl false 3 (p.Steps.map D.PolicyStep.cells))), (vI p.Repeat)]), [], []⟩),
        (some 7, ⟨[], [], (.ref 1007 0), [(1007, (.box [(vS (ByteArray.mk #[])), (.p (.sl true 0 [])), (vI 0)]))], [1007]⟩),
        (none, ⟨[(7, (.ref 1007 0)), (35, (.agg [(vS p.Name), (.p (.sl false 3 (p.Steps.map D.PolicyStep.cells))), (vI p.Repeat)]))], [(1007, (.box [(vS (ByteArray.mk #[])), (.p (.sl true 0 [])), (vI 0)]))], .any, [(1007, (.box [(vS p.Name), (.p (.sl false 3 (p.Steps.map D.PolicyStep.cells))), (vI p.Repeat)]))], []⟩)]
        ⟨StepOK.p rfl rfl rfl (OpOK.loadBoxAgg (z := 3) rfl rfl (by kernel_rfl) (by kernel_rfl) rfl rfl),
        StepOK.p rfl rfl rfl (OpOK.alloc rfl (by kernel_rfl)),
        StepOK.p rfl rfl rfl (OpOK.storeBox rfl rfl rfl rfl rfl (by kernel_rfl) (by kernel_rfl) rfl), rfl⟩
        [(1, (vK .u16 w)), (5, (.ref 1 0)), (6, (.ref 1006 0)), (7, (.ref 1007 0))]
        [(1, (.box [(.p (.sl false 1 (L.map D.cInt))), (vI ((bookI L 0 : Nat) : Int))])), (1006, (.box [(vS p.Name), (.p (.sl false 3 (p.Steps.map D.PolicyStep.cells))), (vI p.Repeat)])), (1007, (.box [(vS p.Name), (.p (.sl false 3 (p.Steps.map D.PolicyStep.cells))), (vI p.Repeat)]))]
        (by kernel_rfl) ?_
    refine AWp.s_region hGn hGk 
        [(some 36, ⟨[(7, (.ref 1007 0))], [(1007, (.box [(vS p.Name), (.p (.sl false 3 (p.Steps.map D.PolicyStep.cells))), (vI p.Repeat)]))], (.ref 1007 2), [], []⟩),
        (some 37, ⟨[(36, (.ref 1007 2))], [(1007, (.box [(vS p.Name), (.p (.sl false 3 (p.Steps.map D.PolicyStep.cells))), (vI p.Repeat)]))], (vI p.Repeat), [], []⟩),
        (some 38, ⟨[(37, (vI p.Repeat))], [], (vI (p.Repeat + 1)), [], []⟩),
        (some 39, ⟨[(7, (.ref 1007 0))], [(1007, (.box [(vS p.Name), (.p (.sl false 3 (p.Steps.map D.PolicyStep.cells))), (vI p.Repeat)]))], (.ref 1007 2), [], []⟩),
        (none, ⟨[(39, (.ref 1007 2)), (38, (vI (p.Repeat + 1)))], [(1007, (.box [(vS p.Name), (.p (.sl false 3 (p.Steps.map D.PolicyStep.cells))), (vI p.Repeat)]))], .any, [(1007, (.box [(vS p.Name), (.p (.sl false 3 (p.Steps.map D.PolicyStep.cells))), (vI (p.Repeat + 1))]))], []⟩)]
        ⟨StepOK.p rfl rfl rfl (OpOK.fieldRef (fo := 2) rfl rfl (by kernel_rfl) rfl),
        StepOK.p rfl rfl rfl (OpOK.loadBox rfl rfl (by kernel_rfl) rfl),
        StepOK.p rfl rfl rfl (OpOK.add rfl rfl rfl (IntWalk.i64_in _ ⟨by omega, by omega⟩)),
        StepOK.p rfl rfl rfl (OpOK.fieldRef (fo := 2) rfl rfl (by kernel_rfl) rfl),
        StepOK.p rfl rfl rfl (OpOK.storeBox rfl rfl rfl rfl rfl (by kernel_rfl) (by kernel_rfl) rfl), rfl⟩
        [(1, (vK .u16 w)), (5, (.ref 1 0)), (6, (.ref 1006 0)), (7, (.ref 1007 0))]
        [(1, (.box [(.p (.sl false 1 (L.map D.cInt))), (vI ((bookI L 0 : Nat) : Int))])), (1006, (.box [(vS p.Name), (.p (.sl false 3 (p.Steps.map D.PolicyStep.cells))), (vI p.Repeat)])), (1007, (.box [(vS p.Name), (.p (.sl false 3 (p.Steps.map D.PolicyStep.cells))), (vI (p.Repeat + 1))]))]
        (by kernel_rfl) ?_
    refine AWp.s_region hGn hGk 
        [(some 40, ⟨[(6, (.ref 1006 0))], [(1006, (.box [(vS p.Name), (.p (.sl false 3 (p.Steps.map D.PolicyStep.cells))), (vI p.Repeat)]))], (.agg [(vS p.Name), (.p (.sl false 3 (p.Steps.map D.PolicyStep.cells))), (vI p.Repeat)]), [], []⟩),
        (some 8, ⟨[], [], (.ref 1008 0), [(1008, (.box [(vS (ByteArray.mk #[])), (.p (.sl true 0 [])), (vI 0)]))], [1008]⟩),
        (none, ⟨[(8, (.ref 1008 0)), (40, (.agg [(vS p.Name), (.p (.sl false 3 (p.Steps.map D.PolicyStep.cells))), (vI p.Repeat)]))], [(1008, (.box [(vS (ByteArray.mk #[])), (.p (.sl true 0 [])), (vI 0)]))], .any, [(1008, (.box [(vS p.Name), (.p (.sl false 3 (p.Steps.map D.PolicyStep.cells))), (vI p.Repeat)]))], []⟩)]
        ⟨StepOK.p rfl rfl rfl (OpOK.loadBoxAgg (z := 3) rfl rfl (by kernel_rfl) (by kernel_rfl) rfl rfl),
        StepOK.p rfl rfl rfl (OpOK.alloc rfl (by kernel_rfl)),
        StepOK.p rfl rfl rfl (OpOK.storeBox rfl rfl rfl rfl rfl (by kernel_rfl) (by kernel_rfl) rfl), rfl⟩
        [(1, (vK .u16 w)), (5, (.ref 1 0)), (6, (.ref 1006 0)), (7, (.ref 1007 0)), (8, (.ref 1008 0))]
        [(1, (.box [(.p (.sl false 1 (L.map D.cInt))), (vI ((bookI L 0 : Nat) : Int))])), (1006, (.box [(vS p.Name), (.p (.sl false 3 (p.Steps.map D.PolicyStep.cells))), (vI p.Repeat)])), (1007, (.box [(vS p.Name), (.p (.sl false 3 (p.Steps.map D.PolicyStep.cells))), (vI (p.Repeat + 1))])), (1008, (.box [(vS p.Name), (.p (.sl false 3 (p.Steps.map D.PolicyStep.cells))), (vI p.Repeat)]))]
        (by kernel_rfl) ?_
    refine AWp.s_region hGn hGk 
        [(some 41, ⟨[(6, (.ref 1006 0))], [(1006, (.box [(vS p.Name), (.p (.sl false 3 (p.Steps.map D.PolicyStep.cells))), (vI p.Repeat)]))], (.ref 1006 1), [], []⟩),
        (some 42, ⟨[(41, (.ref 1006 1))], [(1006, (.box [(vS p.Name), (.p (.sl false 3 (p.Steps.map D.PolicyStep.cells))), (vI p.Repeat)]))], (.p (.sl false 3 (p.Steps.map D.PolicyStep.cells))), [], []⟩),
        (some 43, ⟨[(42, (.p (.sl false 3 (p.Steps.map D.PolicyStep.cells))))], [], (.own 1043 ((p.Steps.map D.PolicyStep.cells).length)), [(1043, (.arr 3 (p.Steps.map D.PolicyStep.cells)))], [1043]⟩),
        (some 44, ⟨[(8, (.ref 1008 0))], [(1008, (.box [(vS p.Name), (.p (.sl false 3 (p.Steps.map D.PolicyStep.cells))), (vI p.Repeat)]))], (.ref 1008 1), [], []⟩),
        (none, ⟨[(44, (.ref 1008 1)), (43, (.own 1043 ((p.Steps.map D.PolicyStep.cells).length)))], [(1008, (.box [(vS p.Name), (.p (.sl false 3 (p.Steps.map D.PolicyStep.cells))), (vI p.Repeat)]))], .any, [(1008, (.box [(vS p.Name), (.own 1043 ((p.Steps.map D.PolicyStep.cells).length)), (vI p.Repeat)]))], []⟩)]
        ⟨StepOK.p rfl rfl rfl (OpOK.fieldRef (fo := 1) rfl rfl (by kernel_rfl) rfl),
        StepOK.p rfl rfl rfl (OpOK.loadBox rfl rfl (by kernel_rfl) rfl),
        StepOK.p rfl rfl rfl (OpOK.appendNew (e := 44) (bytes := 40) rfl rfl (by kernel_rfl) (by kernel_rfl) (by kernel_rfl) rfl rfl rfl rfl (.inl rfl) (by simp only [List.length_map, List.length_cons, List.length_nil]; omega) (by simp only [List.length_map, List.length_cons, List.length_nil]; omega)),
        StepOK.p rfl rfl rfl (OpOK.fieldRef (fo := 1) rfl rfl (by kernel_rfl) rfl),
        StepOK.p rfl rfl rfl (OpOK.storeBox rfl rfl rfl rfl rfl (by kernel_rfl) (by kernel_rfl) rfl), rfl⟩
        [(1, (vK .u16 w)), (5, (.ref 1 0)), (6, (.ref 1006 0)), (7, (.ref 1007 0)), (8, (.ref 1008 0))]
        [(1, (.box [(.p (.sl false 1 (L.map D.cInt))), (vI ((bookI L 0 : Nat) : Int))])), (1006, (.box [(vS p.Name), (.p (.sl false 3 (p.Steps.map D.PolicyStep.cells))), (vI p.Repeat)])), (1007, (.box [(vS p.Name), (.p (.sl false 3 (p.Steps.map D.PolicyStep.cells))), (vI (p.Repeat + 1))])), (1008, (.box [(vS p.Name), (.own 1043 ((p.Steps.map D.PolicyStep.cells).length)), (vI p.Repeat)])), (1043, (.arr 3 (p.Steps.map D.PolicyStep.cells)))]
        (by kernel_rfl) ?_
    refine AWp.s_region hGn hGk 
        [(some 45, ⟨[(5, (.ref 1 0))], [], (.ref 1 0), [], []⟩),
        (some 46, ⟨[(6, (.ref 1006 0))], [(1006, (.box [(vS p.Name), (.p (.sl false 3 (p.Steps.map D.PolicyStep.cells))), (vI p.Repeat)]))], (.ref 1006 1), [], []⟩),
        (some 47, ⟨[(46, (.ref 1006 1))], [(1006, (.box [(vS p.Name), (.p (.sl false 3 (p.Steps.map D.PolicyStep.cells))), (vI p.Repeat)]))], (.p (.sl false 3 (p.Steps.map D.PolicyStep.cells))), [], []⟩),
        (some 48, ⟨[(47, (.p (.sl false 3 (p.Steps.map D.PolicyStep.cells))))], [], (vI ((p.Steps.length : Nat) : Int)), [], []⟩),
        (some 49, ⟨[(45, (.ref 1 0)), (48, (vI ((p.Steps.length : Nat) : Int)))], [(1, (.box [(.p (.sl false 1 (L.map D.cInt))), (vI ((bookI L 0 : Nat) : Int))]))], (vI ((k : Nat) : Int)), [(1, (.box [(.p (.sl false 1 (L.map D.cInt))), (vI ((nextI L (bookI L 0) ((p.Steps.length : Nat) : Int) : Nat) : Int))]))], []⟩),
        (some 9, ⟨[(49, (vI ((k : Nat) : Int)))], [], (vI ((k : Nat) : Int)), [], []⟩)]
        ⟨StepOK.p rfl rfl rfl (OpOK.move rfl rfl),
        StepOK.p rfl rfl rfl (OpOK.fieldRef (fo := 1) rfl rfl (by kernel_rfl) rfl),
        StepOK.p rfl rfl rfl (OpOK.loadBox rfl rfl (by kernel_rfl) rfl),
        StepOK.p rfl rfl rfl (OpOK.lenP (e := 44) rfl rfl (by kernel_rfl) rfl (by rw [List.length_map])),
        StepOK.p rfl rfl rfl (OpOK.call rfl (by kernel_rfl) rfl (by have h := made_Next L (bookI L 0) ((p.Steps.length : Nat) : Int) hL (bookI_le (Nat.zero_le _)) (by omega); rw [hk] at h; exact h) (by kernel_rfl)),
        StepOK.p rfl rfl rfl (OpOK.assign rfl rfl), rfl⟩
        [(1, (vK .u16 w)), (6, (.ref 1006 0)), (7, (.ref 1007 0)), (8, (.ref 1008 0)), (9, (vI ((k : Nat) : Int)))]
        [(1006, (.box [(vS p.Name), (.p (.sl false 3 (p.Steps.map D.PolicyStep.cells))), (vI p.Repeat)])), (1007, (.box [(vS p.Name), (.p (.sl false 3 (p.Steps.map D.PolicyStep.cells))), (vI (p.Repeat + 1))])), (1008, (.box [(vS p.Name), (.own 1043 ((p.Steps.map D.PolicyStep.cells).length)), (vI p.Repeat)])), (1043, (.arr 3 (p.Steps.map D.PolicyStep.cells)))]
        (by kernel_rfl) ?_
    refine AWp.s_region hGn hGk 
        [(some 50, ⟨[(1, (vK .u16 w))], [], (vK .u16 w), [], []⟩),
        (some 51, ⟨[(50, (vK .u16 w))], [], (vI w), [], []⟩),
        (some 52, ⟨[(8, (.ref 1008 0))], [(1008, (.box [(vS p.Name), (.own 1043 ((p.Steps.map D.PolicyStep.cells).length)), (vI p.Repeat)]))], (.ref 1008 1), [], []⟩),
        (some 53, ⟨[(52, (.ref 1008 1))], [(1008, (.box [(vS p.Name), (.own 1043 ((p.Steps.map D.PolicyStep.cells).length)), (vI p.Repeat)]))], (.own 1043 ((p.Steps.map D.PolicyStep.cells).length)), [], []⟩),
        (some 54, ⟨[(9, (vI ((k : Nat) : Int)))], [], (vI ((k : Nat) : Int)), [], []⟩),
        (some 55, ⟨[(53, (.own 1043 ((p.Steps.map D.PolicyStep.cells).length))), (54, (vI ((k : Nat) : Int)))], [(1043, (.arr 3 (p.Steps.map D.PolicyStep.cells)))], (.aref 1043 ((p.Steps.map D.PolicyStep.cells).length) k 0), [], []⟩),
        (some 56, ⟨[(55, (.aref 1043 ((p.Steps.map D.PolicyStep.cells).length) k 0))], [(1043, (.arr 3 (p.Steps.map D.PolicyStep.cells)))], (.aref 1043 ((p.Steps.map D.PolicyStep.cells).length) k 0), [], []⟩),
        (some 57, ⟨[(56, (.aref 1043 ((p.Steps.map D.PolicyStep.cells).length) k 0))], [(1043, (.arr 3 (p.Steps.map D.PolicyStep.cells)))], (vI ((nth p.Steps k).Wait)), [], []⟩),
        (some 58, ⟨[(51, (vI w)), (57, (vI ((nth p.Steps k).Wait)))], [], (vI (w - ((nth p.Steps k).Wait))), [], []⟩),
        (some 10, ⟨[(58, (vI (w - ((nth p.Steps k).Wait))))], [], (vI (w - ((nth p.Steps k).Wait))), [], []⟩)]
        ⟨StepOK.p rfl rfl rfl (OpOK.move rfl rfl),
        StepOK.p rfl rfl rfl (OpOK.convI rfl (by kernel_rfl) (by kernel_rfl) rfl (IntWalk.i64_in _ ⟨by omega, by omega⟩)),
        StepOK.p rfl rfl rfl (OpOK.fieldRef (fo := 1) rfl rfl (by kernel_rfl) rfl),
        StepOK.p rfl rfl rfl (OpOK.loadBox rfl rfl (by kernel_rfl) rfl),
        StepOK.p rfl rfl rfl (OpOK.move rfl rfl),
        StepOK.p rfl rfl rfl (OpOK.indexOwn (e := 44) rfl (by kernel_rfl) (by kernel_rfl) rfl (Nat.beq_refl _) rfl rfl (by simp only [List.length_map]; omega)),
        StepOK.p rfl rfl rfl (OpOK.fieldElem (fo := 0) rfl rfl (by kernel_rfl) rfl (Nat.beq_refl _)),
        StepOK.p rfl rfl rfl (OpOK.loadElem rfl rfl (by kernel_rfl) (Nat.beq_refl _) (map_nth (by omega)) rfl),
        StepOK.p rfl rfl rfl (OpOK.sub rfl rfl rfl (IntWalk.i64_in _ ⟨by omega, by omega⟩)),
        StepOK.p rfl rfl rfl (OpOK.assign rfl rfl), rfl⟩
        [(1, (vK .u16 w)), (6, (.ref 1006 0)), (7, (.ref 1007 0)), (8, (.ref 1008 0)), (9, (vI ((k : Nat) : Int))), (10, (vI (w - ((nth p.Steps k).Wait))))]
        [(1006, (.box [(vS p.Name), (.p (.sl false 3 (p.Steps.map D.PolicyStep.cells))), (vI p.Repeat)])), (1007, (.box [(vS p.Name), (.p (.sl false 3 (p.Steps.map D.PolicyStep.cells))), (vI (p.Repeat + 1))])), (1008, (.box [(vS p.Name), (.own 1043 ((p.Steps.map D.PolicyStep.cells).length)), (vI p.Repeat)])), (1043, (.arr 3 (p.Steps.map D.PolicyStep.cells)))]
        (by kernel_rfl) ?_
    refine AWp.s_region hGn hGk 
        [(some 59, ⟨[(8, (.ref 1008 0))], [(1008, (.box [(vS p.Name), (.own 1043 ((p.Steps.map D.PolicyStep.cells).length)), (vI p.Repeat)]))], (.ref 1008 1), [], []⟩),
        (some 60, ⟨[(59, (.ref 1008 1))], [(1008, (.box [(vS p.Name), (.own 1043 ((p.Steps.map D.PolicyStep.cells).length)), (vI p.Repeat)]))], (.own 1043 ((p.Steps.map D.PolicyStep.cells).length)), [], []⟩),
        (some 61, ⟨[(9, (vI ((k : Nat) : Int)))], [], (vI ((k : Nat) : Int)), [], []⟩),
        (some 62, ⟨[(1, (vK .u16 w))], [], (vK .u16 w), [], []⟩),
        (some 63, ⟨[(62, (vK .u16 w))], [], (vI w), [], []⟩),
        (some 64, ⟨[(60, (.own 1043 ((p.Steps.map D.PolicyStep.cells).length))), (61, (vI ((k : Nat) : Int)))], [(1043, (.arr 3 (p.Steps.map D.PolicyStep.cells)))], (.aref 1043 ((p.Steps.map D.PolicyStep.cells).length) k 0), [], []⟩),
        (some 65, ⟨[(64, (.aref 1043 ((p.Steps.map D.PolicyStep.cells).length) k 0))], [(1043, (.arr 3 (p.Steps.map D.PolicyStep.cells)))], (.aref 1043 ((p.Steps.map D.PolicyStep.cells).length) k 0), [], []⟩),
        (none, ⟨[(65, (.aref 1043 ((p.Steps.map D.PolicyStep.cells).length) k 0)), (63, (vI w))], [(1043, (.arr 3 (p.Steps.map D.PolicyStep.cells)))], .any, [(1043, (.arr 3 ((p.Steps.map D.PolicyStep.cells).set k [(pI w), (pB ((nth p.Steps k).Urgent)), (.sl false 2 (((nth p.Steps k).Targets).map D.Target.cells))])))], []⟩)]
        ⟨StepOK.p rfl rfl rfl (OpOK.fieldRef (fo := 1) rfl rfl (by kernel_rfl) rfl),
        StepOK.p rfl rfl rfl (OpOK.loadBox rfl rfl (by kernel_rfl) rfl),
        StepOK.p rfl rfl rfl (OpOK.move rfl rfl),
        StepOK.p rfl rfl rfl (OpOK.move rfl rfl),
        StepOK.p rfl rfl rfl (OpOK.convI rfl (by kernel_rfl) (by kernel_rfl) rfl (IntWalk.i64_in _ ⟨by omega, by omega⟩)),
        StepOK.p rfl rfl rfl (OpOK.indexOwn (e := 44) rfl (by kernel_rfl) (by kernel_rfl) rfl (Nat.beq_refl _) rfl rfl (by simp only [List.length_map]; omega)),
        StepOK.p rfl rfl rfl (OpOK.fieldElem (fo := 0) rfl rfl (by kernel_rfl) rfl (Nat.beq_refl _)),
        StepOK.p rfl rfl rfl (OpOK.storeElem rfl rfl rfl rfl rfl rfl (Nat.beq_refl _) (map_nth (by omega)) (by kernel_rfl) (by kernel_rfl) rfl rfl), rfl⟩
        [(6, (.ref 1006 0)), (7, (.ref 1007 0)), (8, (.ref 1008 0)), (9, (vI ((k : Nat) : Int))), (10, (vI (w - ((nth p.Steps k).Wait))))]
        [(1006, (.box [(vS p.Name), (.p (.sl false 3 (p.Steps.map D.PolicyStep.cells))), (vI p.Repeat)])), (1007, (.box [(vS p.Name), (.p (.sl false 3 (p.Steps.map D.PolicyStep.cells))), (vI (p.Repeat + 1))])), (1008, (.box [(vS p.Name), (.own 1043 ((p.Steps.map D.PolicyStep.cells).length)), (vI p.Repeat)])), (1043, (.arr 3 ((p.Steps.map D.PolicyStep.cells).set k [(pI w), (pB ((nth p.Steps k).Urgent)), (.sl false 2 (((nth p.Steps k).Targets).map D.Target.cells))])))]
        (by kernel_rfl) ?_
    refine AWp.seq ?_
    have hg1 : Good (oneOf p k w) := hg.oneOf hw0 hw1
    have hc1 := oneOf_count p k w
    rw [show (mk [(6, (.ref 1006 0)), (7, (.ref 1007 0)), (8, (.ref 1008 0)), (9, (vI ((k : Nat) : Int))), (10, (vI (w - ((nth p.Steps k).Wait))))] [(1006, (.box [(vS p.Name), (.p (.sl false 3 (p.Steps.map D.PolicyStep.cells))), (vI p.Repeat)])), (1007, (.box [(vS p.Name), (.p (.sl false 3 (p.Steps.map D.PolicyStep.cells))), (vI (p.Repeat + 1))])), (1008, (.box [(vS p.Name), (.own 1043 ((p.Steps.map D.PolicyStep.cells).length)), (vI p.Repeat)])), (1043, (.arr 3 ((p.Steps.map D.PolicyStep.cells).set k [(pI w), (pB ((nth p.Steps k).Urgent)), (.sl false 2 (((nth p.Steps k).Targets).map D.Target.cells))])))]) = (mk [(6, (.ref 1006 0)), (7, (.ref 1007 0)), (8, (.ref 1008 0)), (9, (vI ((k : Nat) : Int))), (10, (vI (w - ((nth p.Steps k).Wait))))] [(1006, (.box [(vS p.Name), (.p (.sl false 3 (p.Steps.map D.PolicyStep.cells))), (vI p.Repeat)])), (1007, (.box [(vS p.Name), (.p (.sl false 3 (p.Steps.map D.PolicyStep.cells))), (vI (p.Repeat + 1))])), (1008, (.box [(vS p.Name), (.own 1043 ((((oneOf p k w).Steps).map D.PolicyStep.cells).length)), (vI p.Repeat)])), (1043, (.arr 3 (((oneOf p k w).Steps).map D.PolicyStep.cells)))]) from (by rw [oneOf_steps, show (p.Steps.map D.PolicyStep.cells).length = ((oneOf p k w).Steps.map D.PolicyStep.cells).length by rw [List.length_map, List.length_map, oneOf_len]])]
    refine AWp.weaken (mk [(6, (.ref 1006 0)), (7, (.ref 1007 0)), (8, (.ref 1008 0)), (9, (vI ((k : Nat) : Int))), (10, (vI (w - ((nth p.Steps k).Wait))))] [(1043, (.arr 3 (((oneOf p k w).Steps).map D.PolicyStep.cells))), (1006, (.box [(vS p.Name), (.p (.sl false 3 (p.Steps.map D.PolicyStep.cells))), (vI p.Repeat)])), (1007, (.box [(vS p.Name), (.p (.sl false 3 (p.Steps.map D.PolicyStep.cells))), (vI (p.Repeat + 1))])), (1008, (.box [(vS p.Name), (.own 1043 ((((oneOf p k w).Steps).map D.PolicyStep.cells).length)), (vI p.Repeat)]))]) (Weak.sub' hGk (by kernel_rfl)) ?_
    refine AWp.weaken (mk [(6, (.ref 1006 0)), (7, (.ref 1007 0)), (8, (.ref 1008 0)), (9, (vI ((k : Nat) : Int))), (10, (vI (w - ((nth p.Steps k).Wait))))] [(1006, (.box [(vS p.Name), (.p (.sl false 3 (p.Steps.map D.PolicyStep.cells))), (vI p.Repeat)])), (1007, (.box [(vS p.Name), (.p (.sl false 3 (p.Steps.map D.PolicyStep.cells))), (vI (p.Repeat + 1))])), (1008, (.box [(vS p.Name), (.p (.sl false 3 (((oneOf p k w).Steps).map D.PolicyStep.cells))), (vI p.Repeat)]))]) (Weak.freeze (n := 1043) (es := 3) (rows := (((oneOf p k w).Steps).map D.PolicyStep.cells)) (by rw [hGk]; decide) ⟨rfl, (.same (by decide)), ⟨rfl, (.same (by decide)), ⟨rfl, (.same (by decide)), ⟨rfl, (.same rfl), ⟨rfl, (.same rfl), trivial⟩⟩⟩⟩⟩ ⟨rfl, by decide, (.same rfl), ⟨rfl, by decide, (.same rfl), ⟨rfl, by decide, (.box (.cons (.same rfl) (.cons .own (.cons (.same rfl) .nil)))), trivial⟩⟩⟩) ?_
    refine AWp.s_region hGn hGk 
        [(some 11, ⟨[], [], (vI 0), [], []⟩)]
        ⟨StepOK.p rfl rfl rfl (OpOK.assign rfl rfl), rfl⟩
        [(6, (.ref 1006 0)), (7, (.ref 1007 0)), (8, (.ref 1008 0)), (9, (vI ((k : Nat) : Int))), (10, (vI (w - ((nth p.Steps k).Wait)))), (11, (vI 0))]
        [(1006, (.box [(vS p.Name), (.p (.sl false 3 (p.Steps.map D.PolicyStep.cells))), (vI p.Repeat)])), (1007, (.box [(vS p.Name), (.p (.sl false 3 (p.Steps.map D.PolicyStep.cells))), (vI (p.Repeat + 1))])), (1008, (.box [(vS p.Name), (.p (.sl false 3 (((oneOf p k w).Steps).map D.PolicyStep.cells))), (vI p.Repeat)]))]
        (by kernel_rfl) ?_
    refine AWp.block ?_
    refine AWp.loop (fun m s => ∃ i, s = (mk [(6, (.ref 1006 0)), (7, (.ref 1007 0)), (8, (.ref 1008 0)), (9, (vI ((k : Nat) : Int))), (10, (vI (w - ((nth p.Steps k).Wait)))), (11, (vI ((i : Nat) : Int)))] [(1006, (.box [(vS p.Name), (.p (.sl false 3 (p.Steps.map D.PolicyStep.cells))), (vI p.Repeat)])), (1007, (.box [(vS p.Name), (.p (.sl false 3 (p.Steps.map D.PolicyStep.cells))), (vI (p.Repeat + 1))])), (1008, (.box [(vS p.Name), (.p (.sl false 3 (((oneOf p k w).Steps).map D.PolicyStep.cells))), (vI p.Repeat)]))]) ∧ ((i : Int) ≤ count p + 1) ∧ m = ((count p).toNat + 1 - i))
        ⟨_, 0, rfl, (by omega), rfl⟩ ?_
    rintro mm2 s ⟨i, rfl, hi, hmm2⟩
    refine AWp.seq ?_
    refine AWp.s_region hGn hGk 
        [(some 66, ⟨[(11, (vI ((i : Nat) : Int)))], [], (vI ((i : Nat) : Int)), [], []⟩),
        (some 67, ⟨[(6, (.ref 1006 0))], [(1006, (.box [(vS p.Name), (.p (.sl false 3 (p.Steps.map D.PolicyStep.cells))), (vI p.Repeat)]))], (.agg [(vS p.Name), (.p (.sl false 3 (p.Steps.map D.PolicyStep.cells))), (vI p.Repeat)]), [], []⟩),
        (some 68, ⟨[(67, (.agg [(vS p.Name), (.p (.sl false 3 (p.Steps.map D.PolicyStep.cells))), (vI p.Repeat)]))], [], (vI (count p)), [], []⟩),
        (some 69, ⟨[(66, (vI ((i : Nat) : Int))), (68, (vI (count p)))], [], (vB (decide (((i : Nat) : Int) ≤ (count p)))), [], []⟩)]
        ⟨StepOK.p rfl rfl rfl (OpOK.move rfl rfl),
        StepOK.p rfl rfl rfl (OpOK.loadBoxAgg (z := 3) rfl rfl (by kernel_rfl) (by kernel_rfl) rfl rfl),
        StepOK.p rfl rfl rfl (OpOK.call rfl (by kernel_rfl) rfl (pol_Count p (by omega)) (by kernel_rfl)),
        StepOK.p rfl rfl rfl (OpOK.leq rfl rfl rfl rfl), rfl⟩
        [(6, (.ref 1006 0)), (7, (.ref 1007 0)), (8, (.ref 1008 0)), (9, (vI ((k : Nat) : Int))), (10, (vI (w - ((nth p.Steps k).Wait)))), (11, (vI ((i : Nat) : Int))), (69, (vB (decide (((i : Nat) : Int) ≤ (count p)))))]
        [(1006, (.box [(vS p.Name), (.p (.sl false 3 (p.Steps.map D.PolicyStep.cells))), (vI p.Repeat)])), (1007, (.box [(vS p.Name), (.p (.sl false 3 (p.Steps.map D.PolicyStep.cells))), (vI (p.Repeat + 1))])), (1008, (.box [(vS p.Name), (.p (.sl false 3 (((oneOf p k w).Steps).map D.PolicyStep.cells))), (vI p.Repeat)]))]
        (by kernel_rfl) ?_
    refine AWp.cond (decide (((i : Nat) : Int) ≤ (count p))) rfl (fun hc3 => ?_) (fun hc3 => ?_)
    · skip
      replace hc3 := of_decide_eq_true hc3
      refine AWp.skip ?_
      refine nextQ_normal ?_
      refine AWp.seq ?_
      refine AWp.block ?_
      refine AWp.s_region hGn hGk 
          [(some 73, ⟨[(6, (.ref 1006 0))], [(1006, (.box [(vS p.Name), (.p (.sl false 3 (p.Steps.map D.PolicyStep.cells))), (vI p.Repeat)]))], (.agg [(vS p.Name), (.p (.sl false 3 (p.Steps.map D.PolicyStep.cells))), (vI p.Repeat)]), [], []⟩),
          (some 74, ⟨[(11, (vI ((i : Nat) : Int)))], [], (vI ((i : Nat) : Int)), [], []⟩),
          (some 75, ⟨[(73, (.agg [(vS p.Name), (.p (.sl false 3 (p.Steps.map D.PolicyStep.cells))), (vI p.Repeat)])), (74, (vI ((i : Nat) : Int)))], [], (.tup [(vI (offW p i)), (vB true)]), [], []⟩),
          (some 72, ⟨[(75, (.tup [(vI (offW p i)), (vB true)]))], [], (.tup [(vI (offW p i)), (vB true)]), [], []⟩),
          (some 76, ⟨[(72, (.tup [(vI (offW p i)), (vB true)]))], [], (vI (offW p i)), [], []⟩),
          (some 77, ⟨[(72, (.tup [(vI (offW p i)), (vB true)]))], [], (vB true), [], []⟩),
          (some 12, ⟨[(76, (vI (offW p i)))], [], (vI (offW p i)), [], []⟩),
          (some 13, ⟨[(77, (vB true))], [], (vB true), [], []⟩)]
          ⟨StepOK.p rfl rfl rfl (OpOK.loadBoxAgg (z := 3) rfl rfl (by kernel_rfl) (by kernel_rfl) rfl rfl),
          StepOK.p rfl rfl rfl (OpOK.move rfl rfl),
          StepOK.p rfl rfl rfl (OpOK.call rfl (by kernel_rfl) rfl (pol_Offset_ok p i hg (by omega)) (by kernel_rfl)),
          StepOK.p rfl rfl rfl (OpOK.move rfl rfl),
          StepOK.p rfl rfl rfl (OpOK.extract rfl rfl rfl),
          StepOK.p rfl rfl rfl (OpOK.extract rfl rfl rfl),
          StepOK.p rfl rfl rfl (OpOK.assign rfl rfl),
          StepOK.p rfl rfl rfl (OpOK.assign rfl rfl), rfl⟩
          [(6, (.ref 1006 0)), (7, (.ref 1007 0)), (8, (.ref 1008 0)), (9, (vI ((k : Nat) : Int))), (10, (vI (w - ((nth p.Steps k).Wait)))), (11, (vI ((i : Nat) : Int))), (12, (vI (offW p i))), (13, (vB true))]
          [(1006, (.box [(vS p.Name), (.p (.sl false 3 (p.Steps.map D.PolicyStep.cells))), (vI p.Repeat)])), (1007, (.box [(vS p.Name), (.p (.sl false 3 (p.Steps.map D.PolicyStep.cells))), (vI (p.Repeat + 1))])), (1008, (.box [(vS p.Name), (.p (.sl false 3 (((oneOf p k w).Steps).map D.PolicyStep.cells))), (vI p.Repeat)]))]
          (by kernel_rfl) ?_
      refine AWp.s_region hGn hGk 
          [(some 79, ⟨[(7, (.ref 1007 0))], [(1007, (.box [(vS p.Name), (.p (.sl false 3 (p.Steps.map D.PolicyStep.cells))), (vI (p.Repeat + 1))]))], (.agg [(vS p.Name), (.p (.sl false 3 (p.Steps.map D.PolicyStep.cells))), (vI (p.Repeat + 1))]), [], []⟩),
          (some 80, ⟨[(11, (vI ((i : Nat) : Int)))], [], (vI ((i : Nat) : Int)), [], []⟩),
          (some 81, ⟨[(79, (.agg [(vS p.Name), (.p (.sl false 3 (p.Steps.map D.PolicyStep.cells))), (vI (p.Repeat + 1))])), (80, (vI ((i : Nat) : Int)))], [], (.tup [(vI (offW p i)), (vB true)]), [], []⟩),
          (some 78, ⟨[(81, (.tup [(vI (offW p i)), (vB true)]))], [], (.tup [(vI (offW p i)), (vB true)]), [], []⟩),
          (some 82, ⟨[(78, (.tup [(vI (offW p i)), (vB true)]))], [], (vI (offW p i)), [], []⟩),
          (some 83, ⟨[(78, (.tup [(vI (offW p i)), (vB true)]))], [], (vB true), [], []⟩),
          (some 14, ⟨[(82, (vI (offW p i)))], [], (vI (offW p i)), [], []⟩),
          (some 15, ⟨[(83, (vB true))], [], (vB true), [], []⟩)]
          ⟨StepOK.p rfl rfl rfl (OpOK.loadBoxAgg (z := 3) rfl rfl (by kernel_rfl) (by kernel_rfl) rfl rfl),
          StepOK.p rfl rfl rfl (OpOK.move rfl rfl),
          StepOK.p rfl rfl rfl (OpOK.call rfl (by kernel_rfl) rfl (more_Offset p i hg hr2 (by omega)) (by kernel_rfl)),
          StepOK.p rfl rfl rfl (OpOK.move rfl rfl),
          StepOK.p rfl rfl rfl (OpOK.extract rfl rfl rfl),
          StepOK.p rfl rfl rfl (OpOK.extract rfl rfl rfl),
          StepOK.p rfl rfl rfl (OpOK.assign rfl rfl),
          StepOK.p rfl rfl rfl (OpOK.assign rfl rfl), rfl⟩
          [(6, (.ref 1006 0)), (7, (.ref 1007 0)), (8, (.ref 1008 0)), (9, (vI ((k : Nat) : Int))), (10, (vI (w - ((nth p.Steps k).Wait)))), (11, (vI ((i : Nat) : Int))), (12, (vI (offW p i))), (13, (vB true)), (14, (vI (offW p i))), (15, (vB true))]
          [(1006, (.box [(vS p.Name), (.p (.sl false 3 (p.Steps.map D.PolicyStep.cells))), (vI p.Repeat)])), (1007, (.box [(vS p.Name), (.p (.sl false 3 (p.Steps.map D.PolicyStep.cells))), (vI (p.Repeat + 1))])), (1008, (.box [(vS p.Name), (.p (.sl false 3 (((oneOf p k w).Steps).map D.PolicyStep.cells))), (vI p.Repeat)]))]
          (by kernel_rfl) ?_
      refine AWp.s_region hGn hGk 
          [(some 85, ⟨[(8, (.ref 1008 0))], [(1008, (.box [(vS p.Name), (.p (.sl false 3 (((oneOf p k w).Steps).map D.PolicyStep.cells))), (vI p.Repeat)]))], (.agg [(vS p.Name), (.p (.sl false 3 (((oneOf p k w).Steps).map D.PolicyStep.cells))), (vI p.Repeat)]), [], []⟩),
          (some 86, ⟨[(11, (vI ((i : Nat) : Int)))], [], (vI ((i : Nat) : Int)), [], []⟩),
          (some 87, ⟨[(85, (.agg [(vS p.Name), (.p (.sl false 3 (((oneOf p k w).Steps).map D.PolicyStep.cells))), (vI p.Repeat)])), (86, (vI ((i : Nat) : Int)))], [], (.tup [(vI (offW (oneOf p k w) i)), (vB true)]), [], []⟩),
          (some 84, ⟨[(87, (.tup [(vI (offW (oneOf p k w) i)), (vB true)]))], [], (.tup [(vI (offW (oneOf p k w) i)), (vB true)]), [], []⟩),
          (some 88, ⟨[(84, (.tup [(vI (offW (oneOf p k w) i)), (vB true)]))], [], (vI (offW (oneOf p k w) i)), [], []⟩),
          (some 89, ⟨[(84, (.tup [(vI (offW (oneOf p k w) i)), (vB true)]))], [], (vB true), [], []⟩),
          (some 16, ⟨[(88, (vI (offW (oneOf p k w) i)))], [], (vI (offW (oneOf p k w) i)), [], []⟩),
          (some 17, ⟨[(89, (vB true))], [], (vB true), [], []⟩)]
          ⟨StepOK.p rfl rfl rfl (OpOK.loadBoxAgg (z := 3) rfl rfl (by kernel_rfl) (by kernel_rfl) rfl rfl),
          StepOK.p rfl rfl rfl (OpOK.move rfl rfl),
          StepOK.p rfl rfl rfl (OpOK.call rfl (by kernel_rfl) rfl (pol_Offset_ok (oneOf p k w) i hg1 (by omega)) (by kernel_rfl)),
          StepOK.p rfl rfl rfl (OpOK.move rfl rfl),
          StepOK.p rfl rfl rfl (OpOK.extract rfl rfl rfl),
          StepOK.p rfl rfl rfl (OpOK.extract rfl rfl rfl),
          StepOK.p rfl rfl rfl (OpOK.assign rfl rfl),
          StepOK.p rfl rfl rfl (OpOK.assign rfl rfl), rfl⟩
          [(6, (.ref 1006 0)), (7, (.ref 1007 0)), (8, (.ref 1008 0)), (9, (vI ((k : Nat) : Int))), (10, (vI (w - ((nth p.Steps k).Wait)))), (11, (vI ((i : Nat) : Int))), (12, (vI (offW p i))), (13, (vB true)), (14, (vI (offW p i))), (15, (vB true)), (16, (vI (offW (oneOf p k w) i))), (17, (vB true))]
          [(1006, (.box [(vS p.Name), (.p (.sl false 3 (p.Steps.map D.PolicyStep.cells))), (vI p.Repeat)])), (1007, (.box [(vS p.Name), (.p (.sl false 3 (p.Steps.map D.PolicyStep.cells))), (vI (p.Repeat + 1))])), (1008, (.box [(vS p.Name), (.p (.sl false 3 (((oneOf p k w).Steps).map D.PolicyStep.cells))), (vI p.Repeat)]))]
          (by kernel_rfl) ?_
      refine AWp.s_region hGn hGk 
          [(some 18, ⟨[], [], (vI 0), [], []⟩)]
          ⟨StepOK.p rfl rfl rfl (OpOK.assign rfl rfl), rfl⟩
          [(6, (.ref 1006 0)), (7, (.ref 1007 0)), (8, (.ref 1008 0)), (9, (vI ((k : Nat) : Int))), (10, (vI (w - ((nth p.Steps k).Wait)))), (11, (vI ((i : Nat) : Int))), (12, (vI (offW p i))), (13, (vB true)), (14, (vI (offW p i))), (15, (vB true)), (16, (vI (offW (oneOf p k w) i))), (17, (vB true)), (18, (vI 0))]
          [(1006, (.box [(vS p.Name), (.p (.sl false 3 (p.Steps.map D.PolicyStep.cells))), (vI p.Repeat)])), (1007, (.box [(vS p.Name), (.p (.sl false 3 (p.Steps.map D.PolicyStep.cells))), (vI (p.Repeat + 1))])), (1008, (.box [(vS p.Name), (.p (.sl false 3 (((oneOf p k w).Steps).map D.PolicyStep.cells))), (vI p.Repeat)]))]
          (by kernel_rfl) ?_
      refine AWp.seq ?_
      refine AWp.s_region hGn hGk 
          [(some 19, ⟨[], [], (vI 0), [], []⟩)]
          ⟨StepOK.p rfl rfl rfl (OpOK.assign rfl rfl), rfl⟩
          [(6, (.ref 1006 0)), (7, (.ref 1007 0)), (8, (.ref 1008 0)), (9, (vI ((k : Nat) : Int))), (10, (vI (w - ((nth p.Steps k).Wait)))), (11, (vI ((i : Nat) : Int))), (12, (vI (offW p i))), (13, (vB true)), (14, (vI (offW p i))), (15, (vB true)), (16, (vI (offW (oneOf p k w) i))), (17, (vB true)), (18, (vI 0)), (19, (vI 0))]
          [(1006, (.box [(vS p.Name), (.p (.sl false 3 (p.Steps.map D.PolicyStep.cells))), (vI p.Repeat)])), (1007, (.box [(vS p.Name), (.p (.sl false 3 (p.Steps.map D.PolicyStep.cells))), (vI (p.Repeat + 1))])), (1008, (.box [(vS p.Name), (.p (.sl false 3 (((oneOf p k w).Steps).map D.PolicyStep.cells))), (vI p.Repeat)]))]
          (by kernel_rfl) ?_
      refine AWp.block ?_
      refine AWp.loop (fun m s => ∃ j, s = (mk [(6, (.ref 1006 0)), (7, (.ref 1007 0)), (8, (.ref 1008 0)), (9, (vI ((k : Nat) : Int))), (10, (vI (w - ((nth p.Steps k).Wait)))), (11, (vI ((i : Nat) : Int))), (12, (vI (offW p i))), (13, (vB true)), (14, (vI (offW p i))), (15, (vB true)), (16, (vI (offW (oneOf p k w) i))), (17, (vB true)), (18, (vI ((times p.Steps.length k j : Nat) : Int))), (19, (vI ((j : Nat) : Int)))] [(1006, (.box [(vS p.Name), (.p (.sl false 3 (p.Steps.map D.PolicyStep.cells))), (vI p.Repeat)])), (1007, (.box [(vS p.Name), (.p (.sl false 3 (p.Steps.map D.PolicyStep.cells))), (vI (p.Repeat + 1))])), (1008, (.box [(vS p.Name), (.p (.sl false 3 (((oneOf p k w).Steps).map D.PolicyStep.cells))), (vI p.Repeat)]))]) ∧ (j ≤ i) ∧ m = (i - j))
          ⟨_, 0, rfl, (by omega), rfl⟩ ?_
      rintro mm4 s ⟨j, rfl, hj, hmm4⟩
      have htl := times_le p.Steps.length k j
      refine AWp.seq ?_
      refine AWp.s_region hGn hGk 
          [(some 90, ⟨[(19, (vI ((j : Nat) : Int)))], [], (vI ((j : Nat) : Int)), [], []⟩),
          (some 91, ⟨[(11, (vI ((i : Nat) : Int)))], [], (vI ((i : Nat) : Int)), [], []⟩),
          (some 92, ⟨[(90, (vI ((j : Nat) : Int))), (91, (vI ((i : Nat) : Int)))], [], (vB (decide (((j : Nat) : Int) < ((i : Nat) : Int)))), [], []⟩)]
          ⟨StepOK.p rfl rfl rfl (OpOK.move rfl rfl),
          StepOK.p rfl rfl rfl (OpOK.move rfl rfl),
          StepOK.p rfl rfl rfl (OpOK.lss rfl rfl rfl rfl), rfl⟩
          [(6, (.ref 1006 0)), (7, (.ref 1007 0)), (8, (.ref 1008 0)), (9, (vI ((k : Nat) : Int))), (10, (vI (w - ((nth p.Steps k).Wait)))), (11, (vI ((i : Nat) : Int))), (12, (vI (offW p i))), (13, (vB true)), (14, (vI (offW p i))), (15, (vB true)), (16, (vI (offW (oneOf p k w) i))), (17, (vB true)), (18, (vI ((times p.Steps.length k j : Nat) : Int))), (19, (vI ((j : Nat) : Int))), (92, (vB (decide (((j : Nat) : Int) < ((i : Nat) : Int)))))]
          [(1006, (.box [(vS p.Name), (.p (.sl false 3 (p.Steps.map D.PolicyStep.cells))), (vI p.Repeat)])), (1007, (.box [(vS p.Name), (.p (.sl false 3 (p.Steps.map D.PolicyStep.cells))), (vI (p.Repeat + 1))])), (1008, (.box [(vS p.Name), (.p (.sl false 3 (((oneOf p k w).Steps).map D.PolicyStep.cells))), (vI p.Repeat)]))]
          (by kernel_rfl) ?_
      refine AWp.cond (decide (((j : Nat) : Int) < ((i : Nat) : Int))) rfl (fun hc5 => ?_) (fun hc5 => ?_)
      · skip
        replace hc5 := of_decide_eq_true hc5
        refine AWp.skip ?_
        refine nextQ_normal ?_
        refine AWp.seq ?_
        refine AWp.block ?_
        refine AWp.s_region hGn hGk 
            [(some 96, ⟨[(6, (.ref 1006 0))], [(1006, (.box [(vS p.Name), (.p (.sl false 3 (p.Steps.map D.PolicyStep.cells))), (vI p.Repeat)]))], (.agg [(vS p.Name), (.p (.sl false 3 (p.Steps.map D.PolicyStep.cells))), (vI p.Repeat)]), [], []⟩),
            (some 97, ⟨[(19, (vI ((j : Nat) : Int)))], [], (vI ((j : Nat) : Int)), [], []⟩),
            (some 98, ⟨[(96, (.agg [(vS p.Name), (.p (.sl false 3 (p.Steps.map D.PolicyStep.cells))), (vI p.Repeat)])), (97, (vI ((j : Nat) : Int)))], [], (.tup [(vI ((j % p.Steps.length : Nat) : Int)), (vI ((j / p.Steps.length : Nat) : Int)), (vB true)]), [], []⟩),
            (some 95, ⟨[(98, (.tup [(vI ((j % p.Steps.length : Nat) : Int)), (vI ((j / p.Steps.length : Nat) : Int)), (vB true)]))], [], (.tup [(vI ((j % p.Steps.length : Nat) : Int)), (vI ((j / p.Steps.length : Nat) : Int)), (vB true)]), [], []⟩),
            (some 99, ⟨[(95, (.tup [(vI ((j % p.Steps.length : Nat) : Int)), (vI ((j / p.Steps.length : Nat) : Int)), (vB true)]))], [], (vI ((j % p.Steps.length : Nat) : Int)), [], []⟩),
            (some 100, ⟨[(95, (.tup [(vI ((j % p.Steps.length : Nat) : Int)), (vI ((j / p.Steps.length : Nat) : Int)), (vB true)]))], [], (vI ((j / p.Steps.length : Nat) : Int)), [], []⟩),
            (some 101, ⟨[(95, (.tup [(vI ((j % p.Steps.length : Nat) : Int)), (vI ((j / p.Steps.length : Nat) : Int)), (vB true)]))], [], (vB true), [], []⟩),
            (some 20, ⟨[(99, (vI ((j % p.Steps.length : Nat) : Int)))], [], (vI ((j % p.Steps.length : Nat) : Int)), [], []⟩),
            (some 21, ⟨[(100, (vI ((j / p.Steps.length : Nat) : Int)))], [], (vI ((j / p.Steps.length : Nat) : Int)), [], []⟩),
            (some 22, ⟨[(101, (vB true))], [], (vB true), [], []⟩)]
            ⟨StepOK.p rfl rfl rfl (OpOK.loadBoxAgg (z := 3) rfl rfl (by kernel_rfl) (by kernel_rfl) rfl rfl),
            StepOK.p rfl rfl rfl (OpOK.move rfl rfl),
            StepOK.p rfl rfl rfl (OpOK.call rfl (by kernel_rfl) rfl (pol_Part_ok p j hg (by omega)) (by kernel_rfl)),
            StepOK.p rfl rfl rfl (OpOK.move rfl rfl),
            StepOK.p rfl rfl rfl (OpOK.extract rfl rfl rfl),
            StepOK.p rfl rfl rfl (OpOK.extract rfl rfl rfl),
            StepOK.p rfl rfl rfl (OpOK.extract rfl rfl rfl),
            StepOK.p rfl rfl rfl (OpOK.assign rfl rfl),
            StepOK.p rfl rfl rfl (OpOK.assign rfl rfl),
            StepOK.p rfl rfl rfl (OpOK.assign rfl rfl), rfl⟩
            [(6, (.ref 1006 0)), (7, (.ref 1007 0)), (8, (.ref 1008 0)), (9, (vI ((k : Nat) : Int))), (10, (vI (w - ((nth p.Steps k).Wait)))), (11, (vI ((i : Nat) : Int))), (12, (vI (offW p i))), (13, (vB true)), (14, (vI (offW p i))), (15, (vB true)), (16, (vI (offW (oneOf p k w) i))), (17, (vB true)), (18, (vI ((times p.Steps.length k j : Nat) : Int))), (19, (vI ((j : Nat) : Int))), (20, (vI ((j % p.Steps.length : Nat) : Int))), (21, (vI ((j / p.Steps.length : Nat) : Int))), (22, (vB true))]
            [(1006, (.box [(vS p.Name), (.p (.sl false 3 (p.Steps.map D.PolicyStep.cells))), (vI p.Repeat)])), (1007, (.box [(vS p.Name), (.p (.sl false 3 (p.Steps.map D.PolicyStep.cells))), (vI (p.Repeat + 1))])), (1008, (.box [(vS p.Name), (.p (.sl false 3 (((oneOf p k w).Steps).map D.PolicyStep.cells))), (vI p.Repeat)]))]
            (by kernel_rfl) ?_
        refine AWp.seq ?_
        refine AWp.s_region hGn hGk 
            [(some 102, ⟨[(22, (vB true))], [], (vB true), [], []⟩),
            (some 103, ⟨[(102, (vB true))], [], (vB false), [], []⟩),
            (some 104, ⟨[(103, (vB false))], [], (vB false), [], []⟩),
            (some 105, ⟨[(20, (vI ((j % p.Steps.length : Nat) : Int))), (104, (vB false))], [], (vI ((j % p.Steps.length : Nat) : Int)), [], []⟩),
            (some 106, ⟨[(19, (vI ((j : Nat) : Int))), (104, (vB false))], [], (vI ((j : Nat) : Int)), [], []⟩),
            (some 107, ⟨[(6, (.ref 1006 0)), (104, (vB false))], [(1006, (.box [(vS p.Name), (.p (.sl false 3 (p.Steps.map D.PolicyStep.cells))), (vI p.Repeat)]))], (.ref 1006 1), [], []⟩),
            (some 108, ⟨[(107, (.ref 1006 1)), (104, (vB false))], [(1006, (.box [(vS p.Name), (.p (.sl false 3 (p.Steps.map D.PolicyStep.cells))), (vI p.Repeat)]))], (.p (.sl false 3 (p.Steps.map D.PolicyStep.cells))), [], []⟩),
            (some 109, ⟨[(108, (.p (.sl false 3 (p.Steps.map D.PolicyStep.cells)))), (104, (vB false))], [], (vI ((p.Steps.length : Nat) : Int)), [], []⟩),
            (some 110, ⟨[(106, (vI ((j : Nat) : Int))), (109, (vI ((p.Steps.length : Nat) : Int))), (104, (vB false))], [], (vI ((j % p.Steps.length : Nat) : Int)), [], []⟩),
            (some 111, ⟨[(105, (vI ((j % p.Steps.length : Nat) : Int))), (110, (vI ((j % p.Steps.length : Nat) : Int))), (104, (vB false))], [], (vB false), [], []⟩),
            (some 112, ⟨[(104, (vB false)), (111, (vB false))], [], (vB false), [], []⟩),
            (some 113, ⟨[(112, (vB false))], [], (vB false), [], []⟩),
            (some 114, ⟨[(21, (vI ((j / p.Steps.length : Nat) : Int))), (113, (vB false))], [], (vI ((j / p.Steps.length : Nat) : Int)), [], []⟩),
            (some 115, ⟨[(19, (vI ((j : Nat) : Int))), (113, (vB false))], [], (vI ((j : Nat) : Int)), [], []⟩),
            (some 116, ⟨[(6, (.ref 1006 0)), (113, (vB false))], [(1006, (.box [(vS p.Name), (.p (.sl false 3 (p.Steps.map D.PolicyStep.cells))), (vI p.Repeat)]))], (.ref 1006 1), [], []⟩),
            (some 117, ⟨[(116, (.ref 1006 1)), (113, (vB false))], [(1006, (.box [(vS p.Name), (.p (.sl false 3 (p.Steps.map D.PolicyStep.cells))), (vI p.Repeat)]))], (.p (.sl false 3 (p.Steps.map D.PolicyStep.cells))), [], []⟩),
            (some 118, ⟨[(117, (.p (.sl false 3 (p.Steps.map D.PolicyStep.cells)))), (113, (vB false))], [], (vI ((p.Steps.length : Nat) : Int)), [], []⟩),
            (some 119, ⟨[(115, (vI ((j : Nat) : Int))), (118, (vI ((p.Steps.length : Nat) : Int))), (113, (vB false))], [], (vI ((j / p.Steps.length : Nat) : Int)), [], []⟩),
            (some 120, ⟨[(114, (vI ((j / p.Steps.length : Nat) : Int))), (119, (vI ((j / p.Steps.length : Nat) : Int))), (113, (vB false))], [], (vB false), [], []⟩),
            (some 121, ⟨[(113, (vB false)), (120, (vB false))], [], (vB false), [], []⟩)]
            ⟨StepOK.p rfl rfl rfl (OpOK.move rfl rfl),
            StepOK.p rfl rfl rfl (OpOK.not rfl rfl rfl),
            StepOK.p rfl rfl rfl (OpOK.move rfl rfl),
            StepOK.g rfl rfl rfl rfl rfl (by simp) (OpOK.move rfl rfl),
            StepOK.g rfl rfl rfl rfl rfl (by simp) (OpOK.move rfl rfl),
            StepOK.g rfl rfl rfl rfl rfl (by simp) (OpOK.fieldRef (fo := 1) rfl rfl (by kernel_rfl) rfl),
            StepOK.g rfl rfl rfl rfl rfl (by simp) (OpOK.loadBox rfl rfl (by kernel_rfl) rfl),
            StepOK.g rfl rfl rfl rfl rfl (by simp) (OpOK.lenP (e := 44) rfl rfl (by kernel_rfl) rfl (by rw [List.length_map])),
            StepOK.g rfl rfl rfl rfl rfl (by simp) (OpOK.rem rfl rfl rfl (by omega) (Int.ofNat_tmod _ _).symm),
            StepOK.g rfl rfl rfl rfl rfl (by simp) (OpOK.neqI rfl rfl rfl (decide_eq_false (fun h => h rfl))),
            StepOK.p rfl rfl rfl (OpOK.pickF rfl rfl rfl),
            StepOK.p rfl rfl rfl (OpOK.move rfl rfl),
            StepOK.g rfl rfl rfl rfl rfl (by simp) (OpOK.move rfl rfl),
            StepOK.g rfl rfl rfl rfl rfl (by simp) (OpOK.move rfl rfl),
            StepOK.g rfl rfl rfl rfl rfl (by simp) (OpOK.fieldRef (fo := 1) rfl rfl (by kernel_rfl) rfl),
            StepOK.g rfl rfl rfl rfl rfl (by simp) (OpOK.loadBox rfl rfl (by kernel_rfl) rfl),
            StepOK.g rfl rfl rfl rfl rfl (by simp) (OpOK.lenP (e := 44) rfl rfl (by kernel_rfl) rfl (by rw [List.length_map])),
            StepOK.g rfl rfl rfl rfl rfl (by simp) (OpOK.quo rfl rfl rfl (by omega) (quo_nat _ _ (by omega))),
            StepOK.g rfl rfl rfl rfl rfl (by simp) (OpOK.neqI rfl rfl rfl (decide_eq_false (fun h => h rfl))),
            StepOK.p rfl rfl rfl (OpOK.pickF rfl rfl rfl), rfl⟩
            [(6, (.ref 1006 0)), (7, (.ref 1007 0)), (8, (.ref 1008 0)), (9, (vI ((k : Nat) : Int))), (10, (vI (w - ((nth p.Steps k).Wait)))), (11, (vI ((i : Nat) : Int))), (12, (vI (offW p i))), (13, (vB true)), (14, (vI (offW p i))), (15, (vB true)), (16, (vI (offW (oneOf p k w) i))), (17, (vB true)), (18, (vI ((times p.Steps.length k j : Nat) : Int))), (19, (vI ((j : Nat) : Int))), (20, (vI ((j % p.Steps.length : Nat) : Int))), (121, (vB false))]
            [(1006, (.box [(vS p.Name), (.p (.sl false 3 (p.Steps.map D.PolicyStep.cells))), (vI p.Repeat)])), (1007, (.box [(vS p.Name), (.p (.sl false 3 (p.Steps.map D.PolicyStep.cells))), (vI (p.Repeat + 1))])), (1008, (.box [(vS p.Name), (.p (.sl false 3 (((oneOf p k w).Steps).map D.PolicyStep.cells))), (vI p.Repeat)]))]
            (by kernel_rfl) ?_
        refine AWp.cond_false rfl ?_
        refine AWp.skip ?_
        refine nextQ_normal ?_
        refine AWp.s_region hGn hGk 
            [(some 122, ⟨[(20, (vI ((j % p.Steps.length : Nat) : Int)))], [], (vI ((j % p.Steps.length : Nat) : Int)), [], []⟩),
            (some 123, ⟨[(9, (vI ((k : Nat) : Int)))], [], (vI ((k : Nat) : Int)), [], []⟩),
            (some 124, ⟨[(122, (vI ((j % p.Steps.length : Nat) : Int))), (123, (vI ((k : Nat) : Int)))], [], (vB (decide (((j % p.Steps.length : Nat) : Int) = ((k : Nat) : Int)))), [], []⟩)]
            ⟨StepOK.p rfl rfl rfl (OpOK.move rfl rfl),
            StepOK.p rfl rfl rfl (OpOK.move rfl rfl),
            StepOK.p rfl rfl rfl (OpOK.eqlI rfl rfl rfl rfl), rfl⟩
            [(6, (.ref 1006 0)), (7, (.ref 1007 0)), (8, (.ref 1008 0)), (9, (vI ((k : Nat) : Int))), (10, (vI (w - ((nth p.Steps k).Wait)))), (11, (vI ((i : Nat) : Int))), (12, (vI (offW p i))), (13, (vB true)), (14, (vI (offW p i))), (15, (vB true)), (16, (vI (offW (oneOf p k w) i))), (17, (vB true)), (18, (vI ((times p.Steps.length k j : Nat) : Int))), (19, (vI ((j : Nat) : Int))), (124, (vB (decide (((j % p.Steps.length : Nat) : Int) = ((k : Nat) : Int)))))]
            [(1006, (.box [(vS p.Name), (.p (.sl false 3 (p.Steps.map D.PolicyStep.cells))), (vI p.Repeat)])), (1007, (.box [(vS p.Name), (.p (.sl false 3 (p.Steps.map D.PolicyStep.cells))), (vI (p.Repeat + 1))])), (1008, (.box [(vS p.Name), (.p (.sl false 3 (((oneOf p k w).Steps).map D.PolicyStep.cells))), (vI p.Repeat)]))]
            (by kernel_rfl) ?_
        refine AWp.cond (decide (((j % p.Steps.length : Nat) : Int) = ((k : Nat) : Int))) rfl (fun hc6 => ?_) (fun hc6 => ?_)
        · skip
          replace hc6 := of_decide_eq_true hc6
          refine AWp.region' hGn hGk 
              [(some 125, ⟨[(18, (vI ((times p.Steps.length k j : Nat) : Int)))], [], (vI ((times p.Steps.length k j : Nat) : Int)), [], []⟩),
              (some 126, ⟨[(125, (vI ((times p.Steps.length k j : Nat) : Int)))], [], (vI (((times p.Steps.length k j) + 1 : Nat) : Int)), [], []⟩),
              (some 18, ⟨[(126, (vI (((times p.Steps.length k j) + 1 : Nat) : Int)))], [], (vI (((times p.Steps.length k j) + 1 : Nat) : Int)), [], []⟩)]
              ⟨StepOK.p rfl rfl rfl (OpOK.move rfl rfl),
              StepOK.p rfl rfl rfl (OpOK.add rfl rfl rfl (by rw [IntWalk.i64_in _ ⟨by omega, by omega⟩]; omega)),
              StepOK.p rfl rfl rfl (OpOK.assign rfl rfl), rfl⟩
              [(6, (.ref 1006 0)), (7, (.ref 1007 0)), (8, (.ref 1008 0)), (9, (vI ((k : Nat) : Int))), (10, (vI (w - ((nth p.Steps k).Wait)))), (11, (vI ((i : Nat) : Int))), (12, (vI (offW p i))), (13, (vB true)), (14, (vI (offW p i))), (15, (vB true)), (16, (vI (offW (oneOf p k w) i))), (17, (vB true)), (18, (vI (((times p.Steps.length k j) + 1 : Nat) : Int))), (19, (vI ((j : Nat) : Int)))]
              [(1006, (.box [(vS p.Name), (.p (.sl false 3 (p.Steps.map D.PolicyStep.cells))), (vI p.Repeat)])), (1007, (.box [(vS p.Name), (.p (.sl false 3 (p.Steps.map D.PolicyStep.cells))), (vI (p.Repeat + 1))])), (1008, (.box [(vS p.Name), (.p (.sl false 3 (((oneOf p k w).Steps).map D.PolicyStep.cells))), (vI p.Repeat)]))]
              (by kernel_rfl) ?_
          refine blockQ_normal ?_
          refine nextQ_normal ?_
          refine AWp.region' hGn hGk 
              [(some 93, ⟨[(19, (vI ((j : Nat) : Int)))], [], (vI ((j : Nat) : Int)), [], []⟩),
              (some 94, ⟨[(93, (vI ((j : Nat) : Int)))], [], (vI ((j + 1 : Nat) : Int)), [], []⟩),
              (some 19, ⟨[(94, (vI ((j + 1 : Nat) : Int)))], [], (vI ((j + 1 : Nat) : Int)), [], []⟩)]
              ⟨StepOK.p rfl rfl rfl (OpOK.move rfl rfl),
              StepOK.p rfl rfl rfl (OpOK.add rfl rfl rfl (by rw [IntWalk.i64_in _ ⟨by omega, by omega⟩]; omega)),
              StepOK.p rfl rfl rfl (OpOK.assign rfl rfl), rfl⟩
              [(6, (.ref 1006 0)), (7, (.ref 1007 0)), (8, (.ref 1008 0)), (9, (vI ((k : Nat) : Int))), (10, (vI (w - ((nth p.Steps k).Wait)))), (11, (vI ((i : Nat) : Int))), (12, (vI (offW p i))), (13, (vB true)), (14, (vI (offW p i))), (15, (vB true)), (16, (vI (offW (oneOf p k w) i))), (17, (vB true)), (18, (vI (((times p.Steps.length k j) + 1 : Nat) : Int))), (19, (vI ((j + 1 : Nat) : Int)))]
              [(1006, (.box [(vS p.Name), (.p (.sl false 3 (p.Steps.map D.PolicyStep.cells))), (vI p.Repeat)])), (1007, (.box [(vS p.Name), (.p (.sl false 3 (p.Steps.map D.PolicyStep.cells))), (vI (p.Repeat + 1))])), (1008, (.box [(vS p.Name), (.p (.sl false 3 (((oneOf p k w).Steps).map D.PolicyStep.cells))), (vI p.Repeat)]))]
              (by kernel_rfl) ?_
          refine nextQ_normal ⟨_, ?_, (j + 1), (by rw [times_yes (by omega)]), (by omega), rfl⟩
          · omega
        · skip
          replace hc6 := of_decide_eq_false hc6
          refine AWp.skip ?_
          refine blockQ_normal ?_
          refine nextQ_normal ?_
          refine AWp.region' hGn hGk 
              [(some 93, ⟨[(19, (vI ((j : Nat) : Int)))], [], (vI ((j : Nat) : Int)), [], []⟩),
              (some 94, ⟨[(93, (vI ((j : Nat) : Int)))], [], (vI ((j + 1 : Nat) : Int)), [], []⟩),
              (some 19, ⟨[(94, (vI ((j + 1 : Nat) : Int)))], [], (vI ((j + 1 : Nat) : Int)), [], []⟩)]
              ⟨StepOK.p rfl rfl rfl (OpOK.move rfl rfl),
              StepOK.p rfl rfl rfl (OpOK.add rfl rfl rfl (by rw [IntWalk.i64_in _ ⟨by omega, by omega⟩]; omega)),
              StepOK.p rfl rfl rfl (OpOK.assign rfl rfl), rfl⟩
              [(6, (.ref 1006 0)), (7, (.ref 1007 0)), (8, (.ref 1008 0)), (9, (vI ((k : Nat) : Int))), (10, (vI (w - ((nth p.Steps k).Wait)))), (11, (vI ((i : Nat) : Int))), (12, (vI (offW p i))), (13, (vB true)), (14, (vI (offW p i))), (15, (vB true)), (16, (vI (offW (oneOf p k w) i))), (17, (vB true)), (18, (vI ((times p.Steps.length k j : Nat) : Int))), (19, (vI ((j + 1 : Nat) : Int)))]
              [(1006, (.box [(vS p.Name), (.p (.sl false 3 (p.Steps.map D.PolicyStep.cells))), (vI p.Repeat)])), (1007, (.box [(vS p.Name), (.p (.sl false 3 (p.Steps.map D.PolicyStep.cells))), (vI (p.Repeat + 1))])), (1008, (.box [(vS p.Name), (.p (.sl false 3 (((oneOf p k w).Steps).map D.PolicyStep.cells))), (vI p.Repeat)]))]
              (by kernel_rfl) ?_
          refine nextQ_normal ⟨_, ?_, (j + 1), (by rw [times_no (by omega)]), (by omega), rfl⟩
          · omega
      · skip
        replace hc5 := of_decide_eq_false hc5
        refine AWp.weaken (mk [(6, (.ref 1006 0)), (7, (.ref 1007 0)), (8, (.ref 1008 0)), (9, (vI ((k : Nat) : Int))), (10, (vI (w - ((nth p.Steps k).Wait)))), (11, (vI ((i : Nat) : Int))), (12, (vI (offW p i))), (13, (vB true)), (14, (vI (offW p i))), (15, (vB true)), (16, (vI (offW (oneOf p k w) i))), (17, (vB true)), (18, (vI ((times p.Steps.length k j : Nat) : Int)))] [(1006, (.box [(vS p.Name), (.p (.sl false 3 (p.Steps.map D.PolicyStep.cells))), (vI p.Repeat)])), (1007, (.box [(vS p.Name), (.p (.sl false 3 (p.Steps.map D.PolicyStep.cells))), (vI (p.Repeat + 1))])), (1008, (.box [(vS p.Name), (.p (.sl false 3 (((oneOf p k w).Steps).map D.PolicyStep.cells))), (vI p.Repeat)]))]) (Weak.sub' hGk (by kernel_rfl)) ?_
        refine AWp.exit ?_
        refine nextQ_exit ?_
        refine nextQ_exit ?_
        refine blockQ_exit ?_
        refine nextQ_normal ?_
        have hby := by_in (T := times p.Steps.length k j) (B := w - (nth p.Steps k).Wait) (by omega) (by omega) (by omega)
        have hof := hg.offW i (by omega)
        refine AWp.s_region hGn hGk 
            [(some 127, ⟨[(13, (vB true))], [], (vB true), [], []⟩),
            (some 128, ⟨[(127, (vB true))], [], (vB false), [], []⟩),
            (some 129, ⟨[(128, (vB false))], [], (vB false), [], []⟩),
            (some 130, ⟨[(15, (vB true)), (129, (vB false))], [], (vB true), [], []⟩),
            (some 131, ⟨[(130, (vB true)), (129, (vB false))], [], (vB false), [], []⟩),
            (some 132, ⟨[(129, (vB false)), (131, (vB false))], [], (vB false), [], []⟩),
            (some 133, ⟨[(132, (vB false))], [], (vB false), [], []⟩),
            (some 134, ⟨[(17, (vB true)), (133, (vB false))], [], (vB true), [], []⟩),
            (some 135, ⟨[(134, (vB true)), (133, (vB false))], [], (vB false), [], []⟩),
            (some 136, ⟨[(133, (vB false)), (135, (vB false))], [], (vB false), [], []⟩),
            (some 137, ⟨[(136, (vB false))], [], (vB false), [], []⟩),
            (some 138, ⟨[(12, (vI (offW p i))), (137, (vB false))], [], (vI (offW p i)), [], []⟩),
            (some 139, ⟨[(14, (vI (offW p i))), (137, (vB false))], [], (vI (offW p i)), [], []⟩),
            (some 140, ⟨[(138, (vI (offW p i))), (139, (vI (offW p i))), (137, (vB false))], [], (vB false), [], []⟩),
            (some 141, ⟨[(137, (vB false)), (140, (vB false))], [], (vB false), [], []⟩),
            (some 142, ⟨[(141, (vB false))], [], (vB false), [], []⟩),
            (some 143, ⟨[(16, (vI (offW (oneOf p k w) i))), (142, (vB false))], [], (vI (offW (oneOf p k w) i)), [], []⟩),
            (some 144, ⟨[(12, (vI (offW p i))), (142, (vB false))], [], (vI (offW p i)), [], []⟩),
            (some 145, ⟨[(18, (vI ((times p.Steps.length k j : Nat) : Int))), (142, (vB false))], [], (vI ((times p.Steps.length k j : Nat) : Int)), [], []⟩),
            (some 146, ⟨[(10, (vI (w - ((nth p.Steps k).Wait)))), (142, (vB false))], [], (vI (w - ((nth p.Steps k).Wait))), [], []⟩),
            (some 147, ⟨[(145, (vI ((times p.Steps.length k j : Nat) : Int))), (146, (vI (w - ((nth p.Steps k).Wait)))), (142, (vB false))], [], (vI (((times p.Steps.length k j : Nat) : Int) * (w - ((nth p.Steps k).Wait)))), [], []⟩),
            (some 148, ⟨[(144, (vI (offW p i))), (147, (vI (((times p.Steps.length k j : Nat) : Int) * (w - ((nth p.Steps k).Wait))))), (142, (vB false))], [], (vI ((offW p i) + (((times p.Steps.length k j : Nat) : Int) * (w - ((nth p.Steps k).Wait))))), [], []⟩),
            (some 149, ⟨[(143, (vI (offW (oneOf p k w) i))), (148, (vI ((offW p i) + (((times p.Steps.length k j : Nat) : Int) * (w - ((nth p.Steps k).Wait)))))), (142, (vB false))], [], (vB false), [], []⟩),
            (some 150, ⟨[(142, (vB false)), (149, (vB false))], [], (vB false), [], []⟩)]
            ⟨StepOK.p rfl rfl rfl (OpOK.move rfl rfl),
            StepOK.p rfl rfl rfl (OpOK.not rfl rfl rfl),
            StepOK.p rfl rfl rfl (OpOK.move rfl rfl),
            StepOK.g rfl rfl rfl rfl rfl (by simp) (OpOK.move rfl rfl),
            StepOK.g rfl rfl rfl rfl rfl (by simp) (OpOK.not rfl rfl rfl),
            StepOK.p rfl rfl rfl (OpOK.pickF rfl rfl rfl),
            StepOK.p rfl rfl rfl (OpOK.move rfl rfl),
            StepOK.g rfl rfl rfl rfl rfl (by simp) (OpOK.move rfl rfl),
            StepOK.g rfl rfl rfl rfl rfl (by simp) (OpOK.not rfl rfl rfl),
            StepOK.p rfl rfl rfl (OpOK.pickF rfl rfl rfl),
            StepOK.p rfl rfl rfl (OpOK.move rfl rfl),
            StepOK.g rfl rfl rfl rfl rfl (by simp) (OpOK.move rfl rfl),
            StepOK.g rfl rfl rfl rfl rfl (by simp) (OpOK.move rfl rfl),
            StepOK.g rfl rfl rfl rfl rfl (by simp) (OpOK.neqI rfl rfl rfl (decide_eq_false (fun h => h rfl))),
            StepOK.p rfl rfl rfl (OpOK.pickF rfl rfl rfl),
            StepOK.p rfl rfl rfl (OpOK.move rfl rfl),
            StepOK.g rfl rfl rfl rfl rfl (by simp) (OpOK.move rfl rfl),
            StepOK.g rfl rfl rfl rfl rfl (by simp) (OpOK.move rfl rfl),
            StepOK.g rfl rfl rfl rfl rfl (by simp) (OpOK.move rfl rfl),
            StepOK.g rfl rfl rfl rfl rfl (by simp) (OpOK.move rfl rfl),
            StepOK.g rfl rfl rfl rfl rfl (by simp) (OpOK.mul rfl rfl rfl (IntWalk.i64_in _ ⟨by omega, by omega⟩)),
            StepOK.g rfl rfl rfl rfl rfl (by simp) (OpOK.add rfl rfl rfl (IntWalk.i64_in _ ⟨by omega, by omega⟩)),
            StepOK.g rfl rfl rfl rfl rfl (by simp) (OpOK.neqI rfl rfl rfl (decide_eq_false (fun h => h (by rw [show j = i by omega]; exact hg.oneOff hkl hw0 hw1 i (by omega))))),
            StepOK.p rfl rfl rfl (OpOK.pickF rfl rfl rfl), rfl⟩
            [(6, (.ref 1006 0)), (7, (.ref 1007 0)), (8, (.ref 1008 0)), (9, (vI ((k : Nat) : Int))), (10, (vI (w - ((nth p.Steps k).Wait)))), (11, (vI ((i : Nat) : Int))), (150, (vB false))]
            [(1006, (.box [(vS p.Name), (.p (.sl false 3 (p.Steps.map D.PolicyStep.cells))), (vI p.Repeat)])), (1007, (.box [(vS p.Name), (.p (.sl false 3 (p.Steps.map D.PolicyStep.cells))), (vI (p.Repeat + 1))])), (1008, (.box [(vS p.Name), (.p (.sl false 3 (((oneOf p k w).Steps).map D.PolicyStep.cells))), (vI p.Repeat)]))]
            (by kernel_rfl) ?_
        refine AWp.cond_false rfl ?_
        refine AWp.skip ?_
        refine blockQ_normal ?_
        refine nextQ_normal ?_
        refine AWp.region' hGn hGk 
            [(some 70, ⟨[(11, (vI ((i : Nat) : Int)))], [], (vI ((i : Nat) : Int)), [], []⟩),
            (some 71, ⟨[(70, (vI ((i : Nat) : Int)))], [], (vI ((i + 1 : Nat) : Int)), [], []⟩),
            (some 11, ⟨[(71, (vI ((i + 1 : Nat) : Int)))], [], (vI ((i + 1 : Nat) : Int)), [], []⟩)]
            ⟨StepOK.p rfl rfl rfl (OpOK.move rfl rfl),
            StepOK.p rfl rfl rfl (OpOK.add rfl rfl rfl (by rw [IntWalk.i64_in _ ⟨by omega, by omega⟩]; omega)),
            StepOK.p rfl rfl rfl (OpOK.assign rfl rfl), rfl⟩
            [(6, (.ref 1006 0)), (7, (.ref 1007 0)), (8, (.ref 1008 0)), (9, (vI ((k : Nat) : Int))), (10, (vI (w - ((nth p.Steps k).Wait)))), (11, (vI ((i + 1 : Nat) : Int)))]
            [(1006, (.box [(vS p.Name), (.p (.sl false 3 (p.Steps.map D.PolicyStep.cells))), (vI p.Repeat)])), (1007, (.box [(vS p.Name), (.p (.sl false 3 (p.Steps.map D.PolicyStep.cells))), (vI (p.Repeat + 1))])), (1008, (.box [(vS p.Name), (.p (.sl false 3 (((oneOf p k w).Steps).map D.PolicyStep.cells))), (vI p.Repeat)]))]
            (by kernel_rfl) ?_
        refine nextQ_normal ⟨_, ?_, (i + 1), rfl, (by omega), rfl⟩
        · omega
    · skip
      replace hc3 := of_decide_eq_false hc3
      refine AWp.weaken (mk [(6, (.ref 1006 0)), (7, (.ref 1007 0))] [(1006, (.box [(vS p.Name), (.p (.sl false 3 (p.Steps.map D.PolicyStep.cells))), (vI p.Repeat)])), (1007, (.box [(vS p.Name), (.p (.sl false 3 (p.Steps.map D.PolicyStep.cells))), (vI (p.Repeat + 1))]))]) (Weak.sub' hGk (by kernel_rfl)) ?_
      refine AWp.exit ?_
      refine nextQ_exit ?_
      refine nextQ_exit ?_
      refine blockQ_exit ?_
      refine nextQ_normal ?_
      have hqe := hg.offW (count p).toNat (by omega)
      have hq1 := hg.offW p.Steps.length (by omega)
      refine AWp.s_region hGn hGk 
          [(some 151, ⟨[(6, (.ref 1006 0))], [(1006, (.box [(vS p.Name), (.p (.sl false 3 (p.Steps.map D.PolicyStep.cells))), (vI p.Repeat)]))], (.ref 1006 1), [], []⟩),
          (some 152, ⟨[(151, (.ref 1006 1))], [(1006, (.box [(vS p.Name), (.p (.sl false 3 (p.Steps.map D.PolicyStep.cells))), (vI p.Repeat)]))], (.p (.sl false 3 (p.Steps.map D.PolicyStep.cells))), [], []⟩),
          (some 153, ⟨[(152, (.p (.sl false 3 (p.Steps.map D.PolicyStep.cells))))], [], (.agg [(vS (ByteArray.mk #[])), (.p (.sl false 3 (p.Steps.map D.PolicyStep.cells))), (vI 0)]), [], []⟩),
          (some 154, ⟨[(153, (.agg [(vS (ByteArray.mk #[])), (.p (.sl false 3 (p.Steps.map D.PolicyStep.cells))), (vI 0)]))], [], (vI (offW p p.Steps.length)), [], []⟩),
          (some 23, ⟨[(154, (vI (offW p p.Steps.length)))], [], (vI (offW p p.Steps.length)), [], []⟩)]
          ⟨StepOK.p rfl rfl rfl (OpOK.fieldRef (fo := 1) rfl rfl (by kernel_rfl) rfl),
          StepOK.p rfl rfl rfl (OpOK.loadBox rfl rfl (by kernel_rfl) rfl),
          StepOK.p rfl rfl rfl (OpOK.build (pl := [(0, 1), (1, 1), (2, 1)]) (zs := [(vS (ByteArray.mk #[])), (.p (.sl true 0 [])), (vI 0)]) rfl (by kernel_rfl) (by kernel_rfl) rfl),
          StepOK.p rfl rfl rfl (OpOK.call rfl (by kernel_rfl) rfl (pol_End_one p hg) (by kernel_rfl)),
          StepOK.p rfl rfl rfl (OpOK.assign rfl rfl), rfl⟩
          [(6, (.ref 1006 0)), (7, (.ref 1007 0)), (23, (vI (offW p p.Steps.length)))]
          [(1006, (.box [(vS p.Name), (.p (.sl false 3 (p.Steps.map D.PolicyStep.cells))), (vI p.Repeat)])), (1007, (.box [(vS p.Name), (.p (.sl false 3 (p.Steps.map D.PolicyStep.cells))), (vI (p.Repeat + 1))]))]
          (by kernel_rfl) ?_
      refine AWp.s_draw hGn hGk (by kernel_rfl)
          [(some 155, ⟨[(7, (.ref 1007 0))], [(1007, (.box [(vS p.Name), (.p (.sl false 3 (p.Steps.map D.PolicyStep.cells))), (vI (p.Repeat + 1))]))], (.agg [(vS p.Name), (.p (.sl false 3 (p.Steps.map D.PolicyStep.cells))), (vI (p.Repeat + 1))]), [], []⟩),
          (some 156, ⟨[(155, (.agg [(vS p.Name), (.p (.sl false 3 (p.Steps.map D.PolicyStep.cells))), (vI (p.Repeat + 1))]))], [], (vI (count p + ((p.Steps.length : Nat) : Int))), [], []⟩),
          (some 157, ⟨[(6, (.ref 1006 0))], [(1006, (.box [(vS p.Name), (.p (.sl false 3 (p.Steps.map D.PolicyStep.cells))), (vI p.Repeat)]))], (.agg [(vS p.Name), (.p (.sl false 3 (p.Steps.map D.PolicyStep.cells))), (vI p.Repeat)]), [], []⟩),
          (some 158, ⟨[(157, (.agg [(vS p.Name), (.p (.sl false 3 (p.Steps.map D.PolicyStep.cells))), (vI p.Repeat)]))], [], (vI (count p)), [], []⟩),
          (some 159, ⟨[(6, (.ref 1006 0))], [(1006, (.box [(vS p.Name), (.p (.sl false 3 (p.Steps.map D.PolicyStep.cells))), (vI p.Repeat)]))], (.ref 1006 1), [], []⟩),
          (some 160, ⟨[(159, (.ref 1006 1))], [(1006, (.box [(vS p.Name), (.p (.sl false 3 (p.Steps.map D.PolicyStep.cells))), (vI p.Repeat)]))], (.p (.sl false 3 (p.Steps.map D.PolicyStep.cells))), [], []⟩),
          (some 161, ⟨[(160, (.p (.sl false 3 (p.Steps.map D.PolicyStep.cells))))], [], (vI ((p.Steps.length : Nat) : Int)), [], []⟩),
          (some 162, ⟨[(158, (vI (count p))), (161, (vI ((p.Steps.length : Nat) : Int)))], [], (vI ((count p) + ((p.Steps.length : Nat) : Int))), [], []⟩),
          (some 163, ⟨[(156, (vI (count p + ((p.Steps.length : Nat) : Int)))), (162, (vI ((count p) + ((p.Steps.length : Nat) : Int))))], [], (vB true), [], []⟩),
          (some 164, ⟨[(163, (vB true))], [], (vB true), [], []⟩),
          (some 165, ⟨[(7, (.ref 1007 0)), (164, (vB true))], [(1007, (.box [(vS p.Name), (.p (.sl false 3 (p.Steps.map D.PolicyStep.cells))), (vI (p.Repeat + 1))]))], (.agg [(vS p.Name), (.p (.sl false 3 (p.Steps.map D.PolicyStep.cells))), (vI (p.Repeat + 1))]), [], []⟩),
          (some 166, ⟨[(165, (.agg [(vS p.Name), (.p (.sl false 3 (p.Steps.map D.PolicyStep.cells))), (vI (p.Repeat + 1))])), (164, (vB true))], [], (vI (offW p (count p).toNat + offW p p.Steps.length)), [], []⟩),
          (some 167, ⟨[(6, (.ref 1006 0)), (164, (vB true))], [(1006, (.box [(vS p.Name), (.p (.sl false 3 (p.Steps.map D.PolicyStep.cells))), (vI p.Repeat)]))], (.agg [(vS p.Name), (.p (.sl false 3 (p.Steps.map D.PolicyStep.cells))), (vI p.Repeat)]), [], []⟩),
          (some 168, ⟨[(167, (.agg [(vS p.Name), (.p (.sl false 3 (p.Steps.map D.PolicyStep.cells))), (vI p.Repeat)])), (164, (vB true))], [], (vI (offW p (count p).toNat)), [], []⟩),
          (some 169, ⟨[(23, (vI (offW p p.Steps.length))), (164, (vB true))], [], (vI (offW p p.Steps.length)), [], []⟩),
          (some 170, ⟨[(168, (vI (offW p (count p).toNat))), (169, (vI (offW p p.Steps.length))), (164, (vB true))], [], (vI ((offW p (count p).toNat) + (offW p p.Steps.length))), [], []⟩),
          (some 171, ⟨[(166, (vI (offW p (count p).toNat + offW p p.Steps.length))), (170, (vI ((offW p (count p).toNat) + (offW p p.Steps.length)))), (164, (vB true))], [], (vB true), [], []⟩),
          (some 172, ⟨[(164, (vB true)), (171, (vB true))], [], (vB true), [], []⟩),
          (some 173, ⟨[(172, (vB true))], [], (vB true), [], []⟩),
          (some 174, ⟨[(173, (vB true))], [], (vB true), [], []⟩),
          (some 175, ⟨[(173, (vB true)), (174, (vB true))], [], (vB true), [], []⟩),
          (some 4, ⟨[(175, (vB true))], [], (vB true), [], []⟩)]
          ⟨StepOK.p rfl rfl rfl (OpOK.loadBoxAgg (z := 3) rfl rfl (by kernel_rfl) (by kernel_rfl) rfl rfl),
          StepOK.p rfl rfl rfl (OpOK.call rfl (by kernel_rfl) rfl (more_Count p hg hr2) (by kernel_rfl)),
          StepOK.p rfl rfl rfl (OpOK.loadBoxAgg (z := 3) rfl rfl (by kernel_rfl) (by kernel_rfl) rfl rfl),
          StepOK.p rfl rfl rfl (OpOK.call rfl (by kernel_rfl) rfl (pol_Count p (by omega)) (by kernel_rfl)),
          StepOK.p rfl rfl rfl (OpOK.fieldRef (fo := 1) rfl rfl (by kernel_rfl) rfl),
          StepOK.p rfl rfl rfl (OpOK.loadBox rfl rfl (by kernel_rfl) rfl),
          StepOK.p rfl rfl rfl (OpOK.lenP (e := 44) rfl rfl (by kernel_rfl) rfl (by rw [List.length_map])),
          StepOK.p rfl rfl rfl (OpOK.add rfl rfl rfl (IntWalk.i64_in _ ⟨by omega, by omega⟩)),
          StepOK.p rfl rfl rfl (OpOK.eqlI rfl rfl rfl (decide_eq_true rfl)),
          StepOK.p rfl rfl rfl (OpOK.move rfl rfl),
          StepOK.g rfl rfl rfl rfl rfl (by simp) (OpOK.loadBoxAgg (z := 3) rfl rfl (by kernel_rfl) (by kernel_rfl) rfl rfl),
          StepOK.g rfl rfl rfl rfl rfl (by simp) (OpOK.call rfl (by kernel_rfl) rfl (more_End p hg hr2) (by kernel_rfl)),
          StepOK.g rfl rfl rfl rfl rfl (by simp) (OpOK.loadBoxAgg (z := 3) rfl rfl (by kernel_rfl) (by kernel_rfl) rfl rfl),
          StepOK.g rfl rfl rfl rfl rfl (by simp) (OpOK.call rfl (by kernel_rfl) rfl (pol_End_ok p hg) (by kernel_rfl)),
          StepOK.g rfl rfl rfl rfl rfl (by simp) (OpOK.move rfl rfl),
          StepOK.g rfl rfl rfl rfl rfl (by simp) (OpOK.add rfl rfl rfl (IntWalk.i64_in _ ⟨by omega, by omega⟩)),
          StepOK.g rfl rfl rfl rfl rfl (by simp) (OpOK.eqlI rfl rfl rfl (decide_eq_true rfl)),
          StepOK.p rfl rfl rfl (OpOK.pickT rfl rfl rfl),
          StepOK.p rfl rfl rfl (OpOK.move rfl rfl),
          StepOK.g rfl rfl rfl rfl rfl (by simp) (OpOK.call rfl (by kernel_rfl) rfl law_sane (by kernel_rfl)),
          StepOK.p rfl rfl rfl (OpOK.pickT rfl rfl rfl),
          StepOK.p rfl rfl rfl (OpOK.assign rfl rfl), rfl⟩
          [(4, (vB true))]
          []
          (by kernel_rfl) (by kernel_rfl) ?_
      refine AWp.ret ?_
      refine fin_of (.inr rfl) (v := (vB true)) (Res.tmp rfl rfl) (h' := []) rfl rfl ?_
      exact ⟨rfl, rfl⟩
end Go.Proofs.Yteccnpkpjaknkaa
