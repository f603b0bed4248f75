/-
  The walks of package policy: counts and offsets; of the dice and their books. Printed by wip/gen/pol.py.
-/
import Derived.Test.YtimfbibaoppfcaaGreatDoorPolLaw
set_option maxRecDepth 100000
set_option linter.unusedSimpArgs false
set_option linter.unusedVariables false
namespace Go.Proofs.YtimfbibaoppfcaaGreatDoor
open Go AM
theorem made_Light (L : List Int) :
    SpecIs Tryz.prog 9 [(.p (.sl false 1 (L.map D.cInt)))] [] (vB (decide (((L.length : Nat) : Int) ≤ (500 : Int)))) [] := by
 refine Spec.intro Tryz.func9 rfl (by kernel_rfl) ?_
 intro Γ hGn hGk
 replace hGn : Γ.n = 6 := hGn
 replace hGk : Γ.names = [] := hGk
 refine AWp.weaken (mk [(0, (.p (.sl false 1 (L.map D.cInt))))] []) (Weak.sub' hGk (by kernel_rfl)) ?_
 refine AWp.s_reg hGn hGk (aa 1) (Man.aa _ _) [(0, (.p (.sl false 1 (L.map D.cInt))))] [] (by kernel_rfl) (by kernel_rfl) ?_
 refine AWp.s_reg hGn hGk [.a, .m (some 4) ⟨[(3, (.p (.sl false 1 (L.map D.cInt))))], [], (vI ((L.length : Nat) : Int)), [], []⟩, .a, .a] ⟨StepOK.p rfl rfl rfl (OpOK.lenP (e := 3) rfl rfl (by kernel_rfl) rfl (by rw [List.length_map])), trivial⟩ [(2, (vB (decide (((L.length : Nat) : Int) ≤ (500 : Int)))))] [] (by kernel_rfl) (by kernel_rfl) ?_
 refine AWp.ret ?_
 refine fin_of (.inr rfl) (v := (vB (decide (((L.length : Nat) : Int) ≤ (500 : Int))))) (Res.tmp rfl rfl) (h' := []) rfl rfl ?_
 exact ⟨rfl, rfl⟩
theorem made_Roll (L : List Int) :
    SpecIs Tryz.prog 11 [(.p (.sl false 1 (L.map D.cInt)))] [] (.ref 1 0) [(1, (.box [(.p (.sl false 1 (L.map D.cInt))), (vI 0)]))] := by
 refine Spec.intro Tryz.func11 rfl (by kernel_rfl) ?_
 intro Γ hGn hGk
 replace hGn : Γ.n = 6 := hGn
 replace hGk : Γ.names = [] := hGk
 refine AWp.weaken (mk [(0, (.p (.sl false 1 (L.map D.cInt))))] []) (Weak.sub' hGk (by kernel_rfl)) ?_
 refine AWp.s_reg hGn hGk (aa 1) (Man.aa _ _) [(0, (.p (.sl false 1 (L.map D.cInt))))] [] (by kernel_rfl) (by kernel_rfl) ?_
 refine AWp.s_reg hGn hGk [.a, .a, .m (some 5) ⟨[(4, (.agg [(.p (.sl false 1 (L.map D.cInt))), (vI 0)]))], [], (.ref 1 0), [(1, (.box [(.p (.sl false 1 (L.map D.cInt))), (vI 0)]))], [1]⟩, .a] ⟨StepOK.p rfl rfl rfl (OpOK.box rfl rfl rfl), trivial⟩ [(2, (.ref 1 0))] [(1, (.box [(.p (.sl false 1 (L.map D.cInt))), (vI 0)]))] (by kernel_rfl) (by kernel_rfl) ?_
 refine AWp.ret ?_
 refine fin_of (.inr rfl) (v := (.ref 1 0)) (Res.tmp rfl rfl) (h' := [(1, (.box [(.p (.sl false 1 (L.map D.cInt))), (vI 0)]))]) rfl rfl ?_
 exact ⟨rfl, rfl⟩
theorem made_Next (L : List Int) (i : Nat) (n : Int) (hL : L.length ≤ 500) (hi : i ≤ L.length) (hn : n ≤ 9223372036854775807) :
    SpecIs Tryz.prog 13 [(.ref 1 0), (vI n)] [(1, (.box [(.p (.sl false 1 (L.map D.cInt))), (vI ((i : Nat) : Int))]))] (vI ((nextN L i n : Nat) : Int)) [(1, (.box [(.p (.sl false 1 (L.map D.cInt))), (vI ((nextI L i n : Nat) : Int))]))] := by
 refine Spec.intro Tryz.func13 rfl (by kernel_rfl) ?_
 intro Γ hGn hGk
 replace hGn : Γ.n = 45 := hGn
 replace hGk : Γ.names = [1] := hGk
 let a'1 : AO := (.box [(.p (.sl false 1 (L.map D.cInt))), (vI ((i : Nat) : Int))])
 refine AWp.weaken (mk [(0, (.ref 1 0)), (1, (vI n))] [(1, a'1)]) (Weak.sub' hGk (by kernel_rfl)) ?_
 refine AWp.s_reg hGn hGk (aa 1) (Man.aa _ _) [(0, (.ref 1 0)), (1, (vI n))] [(1, a'1)] (by kernel_rfl) (by kernel_rfl) ?_
 refine AWp.seq ?_
 by_cases hs1 : ((L.length : Nat) : Int) ≤ ((i : Nat) : Int)
 ·skip
  refine AWp.s_dreg hGn hGk (by kernel_rfl) [.a, .a, .a, .a, .a, .a, .a, .a, .m (some 14) ⟨[(13, (.p (.sl false 1 (L.map D.cInt))))], [], (vI ((L.length : Nat) : Int)), [], []⟩, .m (some 15) ⟨[(9, (vI ((i : Nat) : Int))), (14, (vI ((L.length : Nat) : Int)))], [], (vB true), [], []⟩, .a, .a, .a, .a] ⟨StepOK.p rfl rfl rfl (OpOK.lenP (e := 3) rfl rfl (by kernel_rfl) rfl (by rw [List.length_map])),
   StepOK.p rfl rfl rfl (OpOK.geq rfl rfl rfl (decide_eq_true hs1)), trivial⟩ [(0, (.ref 1 0)), (1, (vI n)), (19, (vB true))] [(1, a'1)] (by kernel_rfl) (by kernel_rfl) (by kernel_rfl) ?_
  refine AWp.cond_true rfl ?_
  refine AWp.s_reg hGn hGk (aa 1) (Man.aa _ _) [(4, (vI 0))] [(1, a'1)] (by kernel_rfl) (by kernel_rfl) ?_
  refine AWp.ret ?_
  refine nextQ_ret ?_
  refine fin_of (.inr rfl) (v := (vI 0)) (Res.tmp rfl rfl) (h' := [(1, (.box [(.p (.sl false 1 (L.map D.cInt))), (vI ((i : Nat) : Int))]))]) rfl rfl ?_
  exact ⟨by rw [nextN_cast, (next_end (L := L) (i := i) (n := n) (by omega)).1], by rw [(next_end (L := L) (i := i) (n := n) (by omega)).2]⟩
 ·skip
  refine AWp.s_dreg hGn hGk (by kernel_rfl) [.a, .a, .a, .a, .a, .a, .a, .a, .m (some 14) ⟨[(13, (.p (.sl false 1 (L.map D.cInt))))], [], (vI ((L.length : Nat) : Int)), [], []⟩, .m (some 15) ⟨[(9, (vI ((i : Nat) : Int))), (14, (vI ((L.length : Nat) : Int)))], [], (vB false), [], []⟩, .a, .a, .a, .a] ⟨StepOK.p rfl rfl rfl (OpOK.lenP (e := 3) rfl rfl (by kernel_rfl) rfl (by rw [List.length_map])),
   StepOK.p rfl rfl rfl (OpOK.geq rfl rfl rfl (decide_eq_false hs1)), trivial⟩ [(0, (.ref 1 0)), (1, (vI n)), (19, (vB (decide (n < (1 : Int)))))] [(1, a'1)] (by kernel_rfl) (by kernel_rfl) (by kernel_rfl) ?_
  refine AWp.cond (decide (n < (1 : Int))) rfl (fun hc2 => ?_) (fun hc2 => ?_)
  ·skip
   replace hc2 := of_decide_eq_true hc2
   refine AWp.s_reg hGn hGk (aa 1) (Man.aa _ _) [(4, (vI 0))] [(1, a'1)] (by kernel_rfl) (by kernel_rfl) ?_
   refine AWp.ret ?_
   refine nextQ_ret ?_
   refine fin_of (.inr rfl) (v := (vI 0)) (Res.tmp rfl rfl) (h' := [(1, (.box [(.p (.sl false 1 (L.map D.cInt))), (vI ((i : Nat) : Int))]))]) rfl rfl ?_
   exact ⟨by rw [nextN_cast, (next_end (L := L) (i := i) (n := n) (by omega)).1], by rw [(next_end (L := L) (i := i) (n := n) (by omega)).2]⟩
  ·skip
   replace hc2 := of_decide_eq_false hc2
   refine AWp.skip ?_
   refine nextQ_normal ?_
   refine AWp.s_dreg hGn hGk (by kernel_rfl) [.a, .a, .a, .a, .a, .a, .a, .a, .m (some 28) ⟨[(23, (.p (.sl false 1 (L.map D.cInt)))), (27, (vI ((i : Nat) : Int)))], [], (.eptr [(pI (nth L i))]), [], []⟩, .a, .a, .m (some 31) ⟨[(29, (vI (nth L i))), (30, (vI n))], [], (vI ((nth L i).tmod n)), [], []⟩, .a] ⟨StepOK.p rfl rfl rfl (OpOK.indexP (e := 3) rfl (by kernel_rfl) (by kernel_rfl) rfl rfl rfl (map_nth (by omega))),
    StepOK.p rfl rfl rfl (OpOK.rem rfl rfl rfl (by omega) rfl), trivial⟩ [(0, (.ref 1 0)), (1, (vI n)), (5, (vI ((nth L i).tmod n)))] [(1, a'1)] (by kernel_rfl) (by kernel_rfl) (by kernel_rfl) ?_
   let a'2 : AO := (.box [(.p (.sl false 1 (L.map D.cInt))), (vI ((i + 1 : Nat) : Int))])
   refine AWp.s_reg hGn hGk [.a, .a, .a, .a, .m (some 36) ⟨[(35, (vI ((i : Nat) : Int)))], [], (vI ((i + 1 : Nat) : Int)), [], []⟩, .a, .a, .a] ⟨StepOK.p rfl rfl rfl (OpOK.add rfl rfl rfl (by rw [IntWalk.i64_in _ ⟨by omega, by omega⟩]; omega)), trivial⟩ [(1, (vI n)), (5, (vI ((nth L i).tmod n)))] [(1, a'2)] (by kernel_rfl) (by kernel_rfl) ?_
   refine AWp.seq ?_
   refine AWp.s_reg hGn hGk (aa 2) (Man.aa _ _) [(1, (vI n)), (5, (vI ((nth L i).tmod n))), (40, (vB (decide (((nth L i).tmod n) < (0 : Int)))))] [(1, a'2)] (by kernel_rfl) (by kernel_rfl) ?_
   refine AWp.cond (decide (((nth L i).tmod n) < (0 : Int))) rfl (fun hc3 => ?_) (fun hc3 => ?_)
   ·skip
    replace hc3 := of_decide_eq_true hc3
    refine AWp.reg' hGn hGk [.a, .a, .m (some 43) ⟨[(41, (vI ((nth L i).tmod n))), (42, (vI n))], [], (vI ((nth L i).tmod n + n)), [], []⟩, .a] ⟨StepOK.p rfl rfl rfl (OpOK.add rfl rfl rfl (IntWalk.i64_in _ (by have := tmod_in (a := nth L i) (n := n) (by omega); omega))), trivial⟩ [(5, (vI ((nth L i).tmod n + n)))] [(1, a'2)] (by kernel_rfl) (by kernel_rfl) ?_
    refine nextQ_normal ?_
    refine AWp.s_reg hGn hGk (aa 2) (Man.aa _ _) [(4, (vI ((nth L i).tmod n + n)))] [(1, a'2)] (by kernel_rfl) (by kernel_rfl) ?_
    refine AWp.ret ?_
    refine fin_of (.inr rfl) (v := (vI ((nth L i).tmod n + n))) (Res.tmp rfl rfl) (h' := [(1, (.box [(.p (.sl false 1 (L.map D.cInt))), (vI ((i + 1 : Nat) : Int))]))]) rfl rfl ?_
    exact ⟨by rw [nextN_cast, (next_neg (L := L) (i := i) (n := n) (by omega) (by omega) (by omega)).1], by rw [(next_neg (L := L) (i := i) (n := n) (by omega) (by omega) (by omega)).2]⟩
   ·skip
    replace hc3 := of_decide_eq_false hc3
    refine AWp.skip ?_
    refine nextQ_normal ?_
    refine AWp.s_reg hGn hGk (aa 2) (Man.aa _ _) [(4, (vI ((nth L i).tmod n)))] [(1, a'2)] (by kernel_rfl) (by kernel_rfl) ?_
    refine AWp.ret ?_
    refine fin_of (.inr rfl) (v := (vI ((nth L i).tmod n))) (Res.tmp rfl rfl) (h' := [(1, (.box [(.p (.sl false 1 (L.map D.cInt))), (vI ((i + 1 : Nat) : Int))]))]) rfl rfl ?_
    exact ⟨by rw [nextN_cast, (next_pos (L := L) (i := i) (n := n) (by omega) (by omega) (by omega)).1], by rw [(next_pos (L := L) (i := i) (n := n) (by omega) (by omega) (by omega)).2]⟩
theorem made_One (L : List Int) (i : Nat) (l : List Int) (f : Bool) (hL : L.length ≤ 500) (hi : i ≤ L.length) (hl : 1 ≤ l.length ∧ l.length ≤ 1000) :
    SpecIs Tryz.prog 36 [(.ref 1 0), (.p (.sl f 1 (l.map D.cInt)))] [(1, (.box [(.p (.sl false 1 (L.map D.cInt))), (vI ((i : Nat) : Int))]))] (vI (oneV L i l)) [(1, (.box [(.p (.sl false 1 (L.map D.cInt))), (vI ((oneI L i l : Nat) : Int))]))] := by
 refine Spec.intro Tryz.func36 rfl (by kernel_rfl) ?_
 intro Γ hGn hGk
 replace hGn : Γ.n = 12 := hGn
 replace hGk : Γ.names = [1] := hGk
 have hb := nextN_lt L i ((l.length : Nat) : Int) (by omega)
 let a'1 : AO := (.box [(.p (.sl false 1 (L.map D.cInt))), (vI ((i : Nat) : Int))])
 refine AWp.weaken (mk [(0, (.ref 1 0)), (1, (.p (.sl f 1 (l.map D.cInt))))] [(1, a'1)]) (Weak.sub' hGk (by kernel_rfl)) ?_
 refine AWp.s_reg hGn hGk (aa 1) (Man.aa _ _) [(0, (.ref 1 0)), (1, (.p (.sl f 1 (l.map D.cInt))))] [(1, a'1)] (by kernel_rfl) (by kernel_rfl) ?_
 refine AWp.s_reg hGn hGk [.a, .a, .a, .m (some 8) ⟨[(7, (.p (.sl f 1 (l.map D.cInt))))], [], (vI ((l.length : Nat) : Int)), [], []⟩, .m (some 9) ⟨[(6, (.ref 1 0)), (8, (vI ((l.length : Nat) : Int)))], [(1, a'1)], (vI ((nextN L i ((l.length : Nat) : Int) : Nat) : Int)), [(1, (.box [(.p (.sl false 1 (L.map D.cInt))), (vI ((nextI L i ((l.length : Nat) : Int) : Nat) : Int))]))], []⟩, .m (some 10) ⟨[(5, (.p (.sl f 1 (l.map D.cInt)))), (9, (vI ((nextN L i ((l.length : Nat) : Int) : Nat) : Int)))], [], (.eptr [(pI (nth l (nextN L i ((l.length : Nat) : Int))))]), [], []⟩, .a, .a] ⟨StepOK.p rfl rfl rfl (OpOK.lenP (e := 3) rfl rfl (by kernel_rfl) rfl (by rw [List.length_map])),
  StepOK.p rfl rfl rfl (OpOK.call rfl (by kernel_rfl) rfl (made_Next L i ((l.length : Nat) : Int) hL (by repeat (first | assumption | exact Nat.zero_le _ | apply nextI_le | apply oneI_le | apply targetI_le | apply teamI_le | apply stepI_le | apply policyI_le)) (by omega)) (by kernel_rfl)),
  StepOK.p rfl rfl rfl (OpOK.indexP (e := 3) rfl (by kernel_rfl) (by kernel_rfl) rfl rfl rfl (map_nth (by omega))), trivial⟩ [(4, (vI (nth l (nextN L i ((l.length : Nat) : Int)))))] [(1, (.box [(.p (.sl false 1 (L.map D.cInt))), (vI ((nextI L i ((l.length : Nat) : Int) : Nat) : Int))]))] (by kernel_rfl) (by kernel_rfl) ?_
 refine AWp.ret ?_
 refine fin_of (.inr rfl) (v := (vI (nth l (nextN L i ((l.length : Nat) : Int))))) (Res.tmp rfl rfl) (h' := [(1, (.box [(.p (.sl false 1 (L.map D.cInt))), (vI ((nextI L i ((l.length : Nat) : Int) : Nat) : Int))]))]) rfl rfl ?_
 exact ⟨rfl, rfl⟩
end Go.Proofs.YtimfbibaoppfcaaGreatDoor
