/-
  The walks of lists of answers. Printed by wip/gen/pol.py.
-/
import Derived.Test.YtimfbibaoppfcaaGreatDoorMergePlain
import Derived.Test.YtimfbibaoppfcaaGreatDoorAnsDice
import Derived.Test.YtimfbibaoppfcaaGreatDoorAmT
set_option maxRecDepth 100000
set_option linter.unusedSimpArgs false
set_option linter.unusedVariables false
namespace Go.Proofs.YtimfbibaoppfcaaGreatDoor
open Go AM
theorem ans_Merge (l : List D.Answer) (a : D.Answer) (hl : l.length ≤ 1000000) :
    SpecIs Tryz.prog 26 [(.p (.sl false 6 (l.map D.Answer.cells))), (.agg [(vI a.ID), (vI a.Page), (vI a.Person), (vI a.Kind), (vI a.Arg), (vI a.At)])] [] (.tup [(.p (.sl false 6 (((mergeA l a).1).map D.Answer.cells))), (vB ((mergeA l a).2))]) [] := by
 refine Spec.intro Tryz.func26 rfl (by kernel_rfl) ?_
 intro Γ hGn hGk
 replace hGn : Γ.n = 62 := hGn
 replace hGk : Γ.names = [] := hGk
 let a'1 : AV := (.p (.sl false 6 (l.map D.Answer.cells)))
 refine AWp.weaken (mk [(0, a'1), (1, (.agg [(vI a.ID), (vI a.Page), (vI a.Person), (vI a.Kind), (vI a.Arg), (vI a.At)]))] []) (Weak.sub' hGk (by kernel_rfl)) ?_
 let a'2 : AO := (.box [(vI a.ID), (vI a.Page), (vI a.Person), (vI a.Kind), (vI a.Arg), (vI a.At)])
 refine AWp.s_reg hGn hGk (aa 3) (Man.aa _ _) [(0, a'1), (3, (.ref 1003 0))] [(1003, a'2)] (by kernel_rfl) (by kernel_rfl) ?_
 let a'3 : AV := (.own 1011 ((l.map D.Answer.cells).length))
 refine AWp.s_reg hGn hGk [.a, .m (some 11) ⟨[(10, a'1)], [], a'3, [(1011, (.arr 6 (l.map D.Answer.cells)))], [1011]⟩, .a] ⟨StepOK.p rfl rfl rfl (OpOK.appendNew (e := 39) (bytes := 48) rfl rfl (by kernel_rfl) (by kernel_rfl) (by kernel_rfl) rfl rfl rfl rfl (.inl rfl) (by simp only [List.length_map, List.length_cons, List.length_nil, List.length_append, List.length_take, List.length_drop]; omega) (by simp only [List.length_map, List.length_cons, List.length_nil, List.length_append, List.length_take, List.length_drop]; omega)), trivial⟩ [(0, a'1), (3, (.ref 1003 0)), (6, a'3)] [(1003, a'2), (1011, (.arr 6 (l.map D.Answer.cells)))] (by kernel_rfl) (by kernel_rfl) ?_
 refine AWp.seq ?_
 refine AWp.s_reg hGn hGk [.a, .m (some 13) ⟨[(12, (.agg [(vI a.ID), (vI a.Page), (vI a.Person), (vI a.Kind), (vI a.Arg), (vI a.At)]))], [], (vB (ansValid a)), [], []⟩, .a] ⟨StepOK.p rfl rfl rfl (OpOK.call rfl (by kernel_rfl) rfl (ans_Valid a) (by kernel_rfl)), trivial⟩ [(0, a'1), (3, (.ref 1003 0)), (6, a'3), (14, (vB (!(ansValid a))))] [(1003, a'2), (1011, (.arr 6 (l.map D.Answer.cells)))] (by kernel_rfl) (by kernel_rfl) ?_
 refine AWp.cond (!(ansValid a)) rfl (fun hc1 => ?_) (fun hc1 => ?_)
 ·skip
  replace hc1 : ansValid a = false := by simpa using hc1
  refine AWp.s_reg hGn hGk (aa 3) (Man.aa _ _) [(4, a'3), (5, (vB false))] [(1011, (.arr 6 (l.map D.Answer.cells)))] (by kernel_rfl) (by kernel_rfl) ?_
  refine AWp.weaken (mk [(4, a'1), (5, (vB false))] []) (Weak.freeze (n := 1011) (es := 6) (rows := (l.map D.Answer.cells)) (by rw [hGk]; decide) ⟨rfl, .own, ⟨rfl, (.same rfl), trivial⟩⟩ trivial) ?_
  refine AWp.ret ?_
  refine nextQ_ret ?_
  refine fin_of (.inr rfl) (v := (.tup [(.p (.sl false 6 (l.map D.Answer.cells))), (vB false)])) (Res.many (by kernel_rfl) (Res1s.cons (Res1.tmp rfl) (Res1s.cons (Res1.tmp rfl) Res1s.nil))) (h' := []) rfl rfl ?_
  exact ⟨by rw [mergeA_no (l := l) (a := a) (by first | (left; assumption) | (right; exact ⟨i, by omega, by assumption⟩))] <;> rfl, rfl⟩
 ·skip
  replace hc1 : ansValid a = true := by simpa using hc1
  have ha2 := ansValid_spec hc1
  refine AWp.skip ?_
  refine nextQ_normal ?_
  refine AWp.s_reg hGn hGk (aa 1) (Man.aa _ _) [(0, a'1), (3, (.ref 1003 0)), (6, a'3), (7, (vI 0))] [(1003, a'2), (1011, (.arr 6 (l.map D.Answer.cells)))] (by kernel_rfl) (by kernel_rfl) ?_
  refine AWp.seq ?_
  refine AWp.s_reg hGn hGk [.a, .m (some 17) ⟨[(16, a'1)], [], (vI ((l.length : Nat) : Int)), [], []⟩, .a] ⟨StepOK.p rfl rfl rfl (OpOK.lenP (e := 39) rfl rfl (by kernel_rfl) rfl (by rw [List.length_map])), trivial⟩ [(0, a'1), (3, (.ref 1003 0)), (6, a'3), (7, (vI 0)), (16, a'1), (17, (vI ((l.length : Nat) : Int))), (18, (vI 0))] [(1003, a'2), (1011, (.arr 6 (l.map D.Answer.cells)))] (by kernel_rfl) (by kernel_rfl) ?_
  refine AWp.block ?_
  refine AWp.loop (fun m s => ∃ i, s = (mk [(0, (.p (.sl false 6 (l.map D.Answer.cells)))), (3, (.ref 1003 0)), (6, (.own 1011 ((l.map D.Answer.cells).length))), (7, (vI ((insK l a i : Nat) : Int))), (16, (.p (.sl false 6 (l.map D.Answer.cells)))), (17, (vI ((l.length : Nat) : Int))), (18, (vI ((i : Nat) : Int)))] [(1003, (.box [(vI a.ID), (vI a.Page), (vI a.Person), (vI a.Kind), (vI a.Arg), (vI a.At)])), (1011, (.arr 6 (l.map D.Answer.cells)))]) ∧ (i ≤ l.length) ∧ (∀ j, j < i → (nth l j).ID ≠ a.ID) ∧ m = (l.length - i))
   ⟨_, 0, rfl, (by omega), (by intro j hj; omega), rfl⟩ ?_
  rintro mm3 s ⟨i, rfl, hi, hn, hmm3⟩
  have hkk := insK_le l a i
  refine AWp.s_reg hGn hGk (aa 1) (Man.aa _ _) [(0, a'1), (3, (.ref 1003 0)), (6, a'3), (7, (vI ((insK l a i : Nat) : Int))), (16, a'1), (17, (vI ((l.length : Nat) : Int))), (18, (vI ((i : Nat) : Int))), (19, (vB (decide (((i : Nat) : Int) < ((l.length : Nat) : Int)))))] [(1003, a'2), (1011, (.arr 6 (l.map D.Answer.cells)))] (by kernel_rfl) (by kernel_rfl) ?_
  refine AWp.seq ?_
  refine AWp.cond (decide (((i : Nat) : Int) < ((l.length : Nat) : Int))) rfl (fun hc4 => ?_) (fun hc4 => ?_)
  ·skip
   replace hc4 := of_decide_eq_true hc4
   refine AWp.skip ?_
   refine nextQ_normal ?_
   refine AWp.seq ?_
   refine AWp.block ?_
   refine AWp.s_reg hGn hGk [.a, .m (some 21) ⟨[(16, a'1), (18, (vI ((i : Nat) : Int)))], [], (.eptr [(pI ((nth l i).ID)), (pI ((nth l i).Page)), (pI ((nth l i).Person)), (pI ((nth l i).Kind)), (pI ((nth l i).Arg)), (pI ((nth l i).At))]), [], []⟩, .a, .a, .a, .a] ⟨StepOK.p rfl rfl rfl (OpOK.indexP (e := 39) rfl (by kernel_rfl) (by kernel_rfl) rfl rfl rfl (map_nth (by omega))), trivial⟩ [(0, a'1), (3, (.ref 1003 0)), (6, a'3), (7, (vI ((insK l a i : Nat) : Int))), (8, (vI ((i : Nat) : Int))), (9, (.ref 1009 0)), (16, a'1), (17, (vI ((l.length : Nat) : Int))), (18, (vI ((i : Nat) : Int)))] [(1003, a'2), (1011, (.arr 6 (l.map D.Answer.cells))), (1009, (.box [(vI ((nth l i).ID)), (vI ((nth l i).Page)), (vI ((nth l i).Person)), (vI ((nth l i).Kind)), (vI ((nth l i).Arg)), (vI ((nth l i).At))]))] (by kernel_rfl) (by kernel_rfl) ?_
   refine AWp.seq ?_
   refine AWp.s_reg hGn hGk (aa 5) (Man.aa _ _) [(0, a'1), (3, (.ref 1003 0)), (6, a'3), (7, (vI ((insK l a i : Nat) : Int))), (8, (vI ((i : Nat) : Int))), (9, (.ref 1009 0)), (16, a'1), (17, (vI ((l.length : Nat) : Int))), (18, (vI ((i : Nat) : Int))), (27, (vB (decide (((nth l i).ID) = a.ID))))] [(1003, a'2), (1011, (.arr 6 (l.map D.Answer.cells))), (1009, (.box [(vI ((nth l i).ID)), (vI ((nth l i).Page)), (vI ((nth l i).Person)), (vI ((nth l i).Kind)), (vI ((nth l i).Arg)), (vI ((nth l i).At))]))] (by kernel_rfl) (by kernel_rfl) ?_
   refine AWp.cond (decide (((nth l i).ID) = a.ID)) rfl (fun hc5 => ?_) (fun hc5 => ?_)
   ·skip
    replace hc5 := of_decide_eq_true hc5
    refine AWp.s_reg hGn hGk (aa 3) (Man.aa _ _) [(4, a'3), (5, (vB false))] [(1011, (.arr 6 (l.map D.Answer.cells)))] (by kernel_rfl) (by kernel_rfl) ?_
    refine AWp.weaken (mk [(4, a'1), (5, (vB false))] []) (Weak.freeze (n := 1011) (es := 6) (rows := (l.map D.Answer.cells)) (by rw [hGk]; decide) ⟨rfl, .own, ⟨rfl, (.same rfl), trivial⟩⟩ trivial) ?_
    refine AWp.ret ?_
    refine nextQ_ret ?_
    refine blockQ_ret ?_
    refine nextQ_ret ?_
    refine nextQ_ret ?_
    refine blockQ_ret ?_
    refine nextQ_ret ?_
    refine fin_of (.inr rfl) (v := (.tup [(.p (.sl false 6 (l.map D.Answer.cells))), (vB false)])) (Res.many (by kernel_rfl) (Res1s.cons (Res1.tmp rfl) (Res1s.cons (Res1.tmp rfl) Res1s.nil))) (h' := []) rfl rfl ?_
    exact ⟨by rw [mergeA_no (l := l) (a := a) (by first | (left; assumption) | (right; exact ⟨i, by omega, by assumption⟩))] <;> rfl, rfl⟩
   ·skip
    replace hc5 := of_decide_eq_false hc5
    refine AWp.skip ?_
    refine nextQ_normal ?_
    by_cases hs6 : ((nth l i).At) < a.At
    ·skip
     first | refine AWp.cast (show (mk [(0, (.p (.sl false 6 (l.map D.Answer.cells)))), (3, (.ref 1003 0)), (6, (.own 1011 ((l.map D.Answer.cells).length))), (7, (vI ((insK l a i : Nat) : Int))), (8, (vI ((i : Nat) : Int))), (9, (.ref 1009 0)), (16, (.p (.sl false 6 (l.map D.Answer.cells)))), (17, (vI ((l.length : Nat) : Int))), (18, (vI ((i : Nat) : Int))), (27, (vB (decide (((nth l i).ID) = a.ID))))] [(1003, (.box [(vI a.ID), (vI a.Page), (vI a.Person), (vI a.Kind), (vI a.Arg), (vI a.At)])), (1011, (.arr 6 (l.map D.Answer.cells))), (1009, (.box [(vI ((nth l i).ID)), (vI ((nth l i).Page)), (vI ((nth l i).Person)), (vI ((nth l i).Kind)), (vI ((nth l i).Arg)), (vI ((nth l i).At))]))]) = (mk [(0, (.p (.sl false 6 (l.map D.Answer.cells)))), (3, (.ref 1003 0)), (6, (.own 1011 ((l.map D.Answer.cells).length))), (7, (vI ((insK l a i : Nat) : Int))), (8, (vI ((i : Nat) : Int))), (9, (.ref 1009 0)), (16, (.p (.sl false 6 (l.map D.Answer.cells)))), (17, (vI ((l.length : Nat) : Int))), (18, (vI ((i : Nat) : Int))), (27, (vB false))] [(1003, (.box [(vI a.ID), (vI a.Page), (vI a.Person), (vI a.Kind), (vI a.Arg), (vI a.At)])), (1011, (.arr 6 (l.map D.Answer.cells))), (1009, (.box [(vI ((nth l i).ID)), (vI ((nth l i).Page)), (vI ((nth l i).Person)), (vI ((nth l i).Kind)), (vI ((nth l i).Arg)), (vI ((nth l i).At))]))]) from by rw [(decide_eq_false hc5)]) ?_ | skip
     refine AWp.s_reg hGn hGk [.a, .a, .a, .a, .m (some 33) ⟨[(30, (vI ((nth l i).At))), (32, (vI a.At))], [], (vB true), [], []⟩, .a, .a, .a, .a, .a, .a, .a, .a, .a, .a, .a, .a, .a, .a] ⟨StepOK.p rfl rfl rfl (OpOK.lss rfl rfl rfl (decide_eq_true hs6)), trivial⟩ [(0, a'1), (3, (.ref 1003 0)), (6, a'3), (7, (vI ((insK l a i : Nat) : Int))), (8, (vI ((i : Nat) : Int))), (16, a'1), (17, (vI ((l.length : Nat) : Int))), (18, (vI ((i : Nat) : Int))), (47, (vB true))] [(1003, a'2), (1011, (.arr 6 (l.map D.Answer.cells)))] (by kernel_rfl) (by kernel_rfl) ?_
     refine AWp.cond_true rfl ?_
     refine AWp.reg' hGn hGk [.a, .m (some 49) ⟨[(48, (vI ((i : Nat) : Int)))], [], (vI ((i + 1 : Nat) : Int)), [], []⟩, .a] ⟨StepOK.p rfl rfl rfl (OpOK.add rfl rfl rfl (by rw [IntWalk.i64_in _ ⟨by omega, by omega⟩]; omega)), trivial⟩ [(0, a'1), (3, (.ref 1003 0)), (6, a'3), (7, (vI ((i + 1 : Nat) : Int))), (16, a'1), (17, (vI ((l.length : Nat) : Int))), (18, (vI ((i : Nat) : Int)))] [(1003, a'2), (1011, (.arr 6 (l.map D.Answer.cells)))] (by kernel_rfl) (by kernel_rfl) ?_
     refine blockQ_normal ?_
     refine nextQ_normal ?_
     refine AWp.reg' hGn hGk [.m (some 50) ⟨[(18, (vI ((i : Nat) : Int)))], [], (vI ((i + 1 : Nat) : Int)), [], []⟩, .a] ⟨StepOK.p rfl rfl rfl (OpOK.add rfl rfl rfl (by rw [IntWalk.i64_in _ ⟨by omega, by omega⟩]; omega)), trivial⟩ [(0, a'1), (3, (.ref 1003 0)), (6, a'3), (7, (vI ((i + 1 : Nat) : Int))), (16, a'1), (17, (vI ((l.length : Nat) : Int))), (18, (vI ((i + 1 : Nat) : Int)))] [(1003, a'2), (1011, (.arr 6 (l.map D.Answer.cells)))] (by kernel_rfl) (by kernel_rfl) ?_
     refine nextQ_normal ⟨_, ?_, (i + 1), (by rw [insK_yes (by unfold ltP; omega)] <;> rfl), (by omega), (fun j hj => by rcases Nat.lt_or_ge j i with h | h; exact hn j h; rw [show j = i from by omega]; assumption), rfl⟩
     · omega
    ·skip
     first | refine AWp.cast (show (mk [(0, (.p (.sl false 6 (l.map D.Answer.cells)))), (3, (.ref 1003 0)), (6, (.own 1011 ((l.map D.Answer.cells).length))), (7, (vI ((insK l a i : Nat) : Int))), (8, (vI ((i : Nat) : Int))), (9, (.ref 1009 0)), (16, (.p (.sl false 6 (l.map D.Answer.cells)))), (17, (vI ((l.length : Nat) : Int))), (18, (vI ((i : Nat) : Int))), (27, (vB (decide (((nth l i).ID) = a.ID))))] [(1003, (.box [(vI a.ID), (vI a.Page), (vI a.Person), (vI a.Kind), (vI a.Arg), (vI a.At)])), (1011, (.arr 6 (l.map D.Answer.cells))), (1009, (.box [(vI ((nth l i).ID)), (vI ((nth l i).Page)), (vI ((nth l i).Person)), (vI ((nth l i).Kind)), (vI ((nth l i).Arg)), (vI ((nth l i).At))]))]) = (mk [(0, (.p (.sl false 6 (l.map D.Answer.cells)))), (3, (.ref 1003 0)), (6, (.own 1011 ((l.map D.Answer.cells).length))), (7, (vI ((insK l a i : Nat) : Int))), (8, (vI ((i : Nat) : Int))), (9, (.ref 1009 0)), (16, (.p (.sl false 6 (l.map D.Answer.cells)))), (17, (vI ((l.length : Nat) : Int))), (18, (vI ((i : Nat) : Int))), (27, (vB false))] [(1003, (.box [(vI a.ID), (vI a.Page), (vI a.Person), (vI a.Kind), (vI a.Arg), (vI a.At)])), (1011, (.arr 6 (l.map D.Answer.cells))), (1009, (.box [(vI ((nth l i).ID)), (vI ((nth l i).Page)), (vI ((nth l i).Person)), (vI ((nth l i).Kind)), (vI ((nth l i).Arg)), (vI ((nth l i).At))]))]) from by rw [(decide_eq_false hc5)]) ?_ | skip
     by_cases hs7 : ((nth l i).At) = a.At
     ·skip
      refine AWp.s_reg hGn hGk [.a, .a, .a, .a, .m (some 33) ⟨[(30, (vI ((nth l i).At))), (32, (vI a.At))], [], (vB false), [], []⟩, .a, .a, .a, .a, .a, .m (some 39) ⟨[(36, (vI ((nth l i).At))), (38, (vI a.At)), (34, (vB false))], [], (vB true), [], []⟩, .a, .a, .a, .a, .a, .a, .a, .a] ⟨StepOK.p rfl rfl rfl (OpOK.lss rfl rfl rfl (decide_eq_false hs6)),
       StepOK.g rfl rfl rfl rfl rfl (by simp) (OpOK.eqlI rfl rfl rfl (decide_eq_true hs7)), trivial⟩ [(0, a'1), (3, (.ref 1003 0)), (6, a'3), (7, (vI ((insK l a i : Nat) : Int))), (8, (vI ((i : Nat) : Int))), (16, a'1), (17, (vI ((l.length : Nat) : Int))), (18, (vI ((i : Nat) : Int))), (47, (vB (decide (((nth l i).ID) < a.ID))))] [(1003, a'2), (1011, (.arr 6 (l.map D.Answer.cells)))] (by kernel_rfl) (by kernel_rfl) ?_
      refine AWp.cond (decide (((nth l i).ID) < a.ID)) rfl (fun hc8 => ?_) (fun hc8 => ?_)
      ·skip
       replace hc8 := of_decide_eq_true hc8
       refine AWp.reg' hGn hGk [.a, .m (some 49) ⟨[(48, (vI ((i : Nat) : Int)))], [], (vI ((i + 1 : Nat) : Int)), [], []⟩, .a] ⟨StepOK.p rfl rfl rfl (OpOK.add rfl rfl rfl (by rw [IntWalk.i64_in _ ⟨by omega, by omega⟩]; omega)), trivial⟩ [(0, a'1), (3, (.ref 1003 0)), (6, a'3), (7, (vI ((i + 1 : Nat) : Int))), (16, a'1), (17, (vI ((l.length : Nat) : Int))), (18, (vI ((i : Nat) : Int)))] [(1003, a'2), (1011, (.arr 6 (l.map D.Answer.cells)))] (by kernel_rfl) (by kernel_rfl) ?_
       refine blockQ_normal ?_
       refine nextQ_normal ?_
       refine AWp.reg' hGn hGk [.m (some 50) ⟨[(18, (vI ((i : Nat) : Int)))], [], (vI ((i + 1 : Nat) : Int)), [], []⟩, .a] ⟨StepOK.p rfl rfl rfl (OpOK.add rfl rfl rfl (by rw [IntWalk.i64_in _ ⟨by omega, by omega⟩]; omega)), trivial⟩ [(0, a'1), (3, (.ref 1003 0)), (6, a'3), (7, (vI ((i + 1 : Nat) : Int))), (16, a'1), (17, (vI ((l.length : Nat) : Int))), (18, (vI ((i + 1 : Nat) : Int)))] [(1003, a'2), (1011, (.arr 6 (l.map D.Answer.cells)))] (by kernel_rfl) (by kernel_rfl) ?_
       refine nextQ_normal ⟨_, ?_, (i + 1), (by rw [insK_yes (by unfold ltP; omega)] <;> rfl), (by omega), (fun j hj => by rcases Nat.lt_or_ge j i with h | h; exact hn j h; rw [show j = i from by omega]; assumption), rfl⟩
       · omega
      ·skip
       replace hc8 := of_decide_eq_false hc8
       refine AWp.skip ?_
       refine blockQ_normal ?_
       refine nextQ_normal ?_
       refine AWp.reg' hGn hGk [.m (some 50) ⟨[(18, (vI ((i : Nat) : Int)))], [], (vI ((i + 1 : Nat) : Int)), [], []⟩, .a] ⟨StepOK.p rfl rfl rfl (OpOK.add rfl rfl rfl (by rw [IntWalk.i64_in _ ⟨by omega, by omega⟩]; omega)), trivial⟩ [(0, a'1), (3, (.ref 1003 0)), (6, a'3), (7, (vI ((insK l a i : Nat) : Int))), (16, a'1), (17, (vI ((l.length : Nat) : Int))), (18, (vI ((i + 1 : Nat) : Int)))] [(1003, a'2), (1011, (.arr 6 (l.map D.Answer.cells)))] (by kernel_rfl) (by kernel_rfl) ?_
       refine nextQ_normal ⟨_, ?_, (i + 1), (by rw [insK_no (by unfold ltP; omega)] <;> rfl), (by omega), (fun j hj => by rcases Nat.lt_or_ge j i with h | h; exact hn j h; rw [show j = i from by omega]; assumption), rfl⟩
       · omega
     ·skip
      refine AWp.s_reg hGn hGk [.a, .a, .a, .a, .m (some 33) ⟨[(30, (vI ((nth l i).At))), (32, (vI a.At))], [], (vB false), [], []⟩, .a, .a, .a, .a, .a, .m (some 39) ⟨[(36, (vI ((nth l i).At))), (38, (vI a.At)), (34, (vB false))], [], (vB false), [], []⟩, .a, .a, .a, .a, .a, .a, .a, .a] ⟨StepOK.p rfl rfl rfl (OpOK.lss rfl rfl rfl (decide_eq_false hs6)),
       StepOK.g rfl rfl rfl rfl rfl (by simp) (OpOK.eqlI rfl rfl rfl (decide_eq_false hs7)), trivial⟩ [(0, a'1), (3, (.ref 1003 0)), (6, a'3), (7, (vI ((insK l a i : Nat) : Int))), (8, (vI ((i : Nat) : Int))), (16, a'1), (17, (vI ((l.length : Nat) : Int))), (18, (vI ((i : Nat) : Int))), (47, (vB false))] [(1003, a'2), (1011, (.arr 6 (l.map D.Answer.cells)))] (by kernel_rfl) (by kernel_rfl) ?_
      refine AWp.cond_false rfl ?_
      refine AWp.skip ?_
      refine blockQ_normal ?_
      refine nextQ_normal ?_
      refine AWp.reg' hGn hGk [.m (some 50) ⟨[(18, (vI ((i : Nat) : Int)))], [], (vI ((i + 1 : Nat) : Int)), [], []⟩, .a] ⟨StepOK.p rfl rfl rfl (OpOK.add rfl rfl rfl (by rw [IntWalk.i64_in _ ⟨by omega, by omega⟩]; omega)), trivial⟩ [(0, a'1), (3, (.ref 1003 0)), (6, a'3), (7, (vI ((insK l a i : Nat) : Int))), (16, a'1), (17, (vI ((l.length : Nat) : Int))), (18, (vI ((i + 1 : Nat) : Int)))] [(1003, a'2), (1011, (.arr 6 (l.map D.Answer.cells)))] (by kernel_rfl) (by kernel_rfl) ?_
      refine nextQ_normal ⟨_, ?_, (i + 1), (by rw [insK_no (by unfold ltP; omega)] <;> rfl), (by omega), (fun j hj => by rcases Nat.lt_or_ge j i with h | h; exact hn j h; rw [show j = i from by omega]; assumption), rfl⟩
      · omega
  ·skip
   replace hc4 := of_decide_eq_false hc4
   refine AWp.weaken (mk [(0, a'1), (3, (.ref 1003 0)), (6, a'3), (7, (vI ((insK l a i : Nat) : Int)))] [(1003, a'2), (1011, (.arr 6 (l.map D.Answer.cells)))]) (Weak.sub' hGk (by kernel_rfl)) ?_
   refine AWp.exit ?_
   refine nextQ_exit ?_
   refine nextQ_exit ?_
   refine blockQ_exit ?_
   refine nextQ_normal ?_
   refine AWp.weaken (mk [(0, a'1), (3, (.ref 1003 0)), (6, a'3), (7, (vI ((insK l a i : Nat) : Int)))] [(1011, (.arr 6 (l.map D.Answer.cells))), (1003, a'2)]) (Weak.sub' hGk (by kernel_rfl)) ?_
   refine AWp.weaken (mk [(0, a'1), (3, (.ref 1003 0)), (6, a'1), (7, (vI ((insK l a i : Nat) : Int)))] [(1003, a'2)]) (Weak.freeze (n := 1011) (es := 6) (rows := (l.map D.Answer.cells)) (by rw [hGk]; decide) ⟨rfl, (.same rfl), ⟨rfl, (.same rfl), ⟨rfl, .own, ⟨rfl, (.same rfl), trivial⟩⟩⟩⟩ ⟨rfl, by decide, (.same rfl), trivial⟩) ?_
   refine AWp.s_dreg hGn hGk (by kernel_rfl) [.a, .a, .a, .m (some 54) ⟨[(51, a'1), (52, (vI ((insK l a i : Nat) : Int))), (53, (vI ((insK l a i : Nat) : Int)))], [], (.p (.sl true 6 ((l.take (insK l a i)).map D.Answer.cells))), [], []⟩, .a, .a, .m (some 57) ⟨[(54, (.p (.sl true 6 ((l.take (insK l a i)).map D.Answer.cells)))), (56, (.p (.sl true 6 [[(pI a.ID), (pI a.Page), (pI a.Person), (pI a.Kind), (pI a.Arg), (pI a.At)]])))], [], (.own 1057 ((((l.take (insK l a i)) ++ [a]).map D.Answer.cells).length)), [(1057, (.arr 6 (((l.take (insK l a i)) ++ [a]).map D.Answer.cells)))], [1057]⟩, .a, .a, .m (some 60) ⟨[(58, a'1), (59, (vI ((insK l a i : Nat) : Int)))], [], (.p (.sl false 6 ((l.drop (insK l a i)).map D.Answer.cells))), [], []⟩, .m (some 61) ⟨[(57, (.own 1057 ((((l.take (insK l a i)) ++ [a]).map D.Answer.cells).length))), (60, (.p (.sl false 6 ((l.drop (insK l a i)).map D.Answer.cells))))], [(1057, (.arr 6 (((l.take (insK l a i)) ++ [a]).map D.Answer.cells)))], (.own 1057 (((((l.take (insK l a i)) ++ [a]) ++ (l.drop (insK l a i))).map D.Answer.cells).length)), [(1057, (.arr 6 ((((l.take (insK l a i)) ++ [a]) ++ (l.drop (insK l a i))).map D.Answer.cells)))], []⟩, .a, .a] ⟨StepOK.p rfl rfl rfl (OpOK.sliceMax (e := 39) (es := 6) (k := insK l a i) rfl (by kernel_rfl) (by kernel_rfl) rfl rfl rfl rfl (by simp only [List.length_map]; omega) (by rw [List.map_take])),
    StepOK.p rfl rfl rfl (OpOK.appendNew (e := 39) (bytes := 48) rfl rfl (by kernel_rfl) (by kernel_rfl) (by kernel_rfl) rfl rfl (by rw [List.map_append]; rfl) rfl (.inr ⟨by simp, rfl⟩) (by simp only [List.length_map, List.length_cons, List.length_nil, List.length_append, List.length_take, List.length_drop]; omega) (by simp only [List.length_map, List.length_cons, List.length_nil, List.length_append, List.length_take, List.length_drop]; omega)),
    StepOK.p rfl rfl rfl (OpOK.sliceLo (e := 39) (es := 6) (k := insK l a i) rfl (by kernel_rfl) (by kernel_rfl) rfl rfl rfl (by simp only [List.length_map]; omega) (by rw [List.map_drop])),
    StepOK.p rfl rfl rfl (OpOK.appendOwn (e := 39) (bytes := 48) rfl rfl (by kernel_rfl) (by kernel_rfl) rfl (Nat.beq_refl _) rfl List.map_append.symm rfl (by simp only [List.length_map, List.length_cons, List.length_nil, List.length_append, List.length_take, List.length_drop]; omega) (by simp only [List.length_map, List.length_cons, List.length_nil, List.length_append, List.length_take, List.length_drop]; omega)), trivial⟩ [(4, (.own 1057 (((((l.take (insK l a i)) ++ [a]) ++ (l.drop (insK l a i))).map D.Answer.cells).length))), (5, (vB true))] [(1057, (.arr 6 ((((l.take (insK l a i)) ++ [a]) ++ (l.drop (insK l a i))).map D.Answer.cells)))] (by kernel_rfl) (by kernel_rfl) (by kernel_rfl) ?_
   refine AWp.weaken (mk [(4, (.p (.sl false 6 ((((l.take (insK l a i)) ++ [a]) ++ (l.drop (insK l a i))).map D.Answer.cells)))), (5, (vB true))] []) (Weak.freeze (n := 1057) (es := 6) (rows := ((((l.take (insK l a i)) ++ [a]) ++ (l.drop (insK l a i))).map D.Answer.cells)) (by rw [hGk]; decide) ⟨rfl, .own, ⟨rfl, (.same rfl), trivial⟩⟩ trivial) ?_
   refine AWp.ret ?_
   refine fin_of (.inr rfl) (v := (.tup [(.p (.sl false 6 ((((l.take (insK l a i)) ++ [a]) ++ (l.drop (insK l a i))).map D.Answer.cells))), (vB true)])) (Res.many (by kernel_rfl) (Res1s.cons (Res1.tmp rfl) (Res1s.cons (Res1.tmp rfl) Res1s.nil))) (h' := []) rfl rfl ?_
   exact ⟨by rw [mergeA_yes (l := l) (a := a) (by assumption) (fun j hj => hn j (by omega)), show l.length = i by omega] <;> rfl, rfl⟩

theorem r28_Merge (l : List D.Answer) (a : D.Answer) (hl : l.length ≤ 1000000) :
    SpecIs Tryz.prog 25 [(.p (.sl false 6 (l.map D.Answer.cells))), (.agg [(vI a.ID), (vI a.Page), (vI a.Person), (vI a.Kind), (vI a.Arg), (vI a.At)])] [] (.tup [(.p (.sl false 6 (((mergeA l a).1).map D.Answer.cells))), (vB ((mergeA l a).2))]) [] := by
 refine Spec.intro Tryz.func25 rfl (by kernel_rfl) ?_
 intro Γ hGn hGk
 replace hGn : Γ.n = 84 := hGn
 replace hGk : Γ.names = [] := hGk
 let a'1 : AV := (.p (.sl false 6 (l.map D.Answer.cells)))
 let a'2 : AV := (.agg [(vI a.ID), (vI a.Page), (vI a.Person), (vI a.Kind), (vI a.Arg), (vI a.At)])
 refine AWp.weaken (mk [(0, a'1), (1, a'2)] []) (Weak.sub' hGk (by kernel_rfl)) ?_
 let a'3 : AO := (.box [(vI a.ID), (vI a.Page), (vI a.Person), (vI a.Kind), (vI a.Arg), (vI a.At)])
 refine AWp.s_reg hGn hGk (aa 3) (Man.aa _ _) [(0, a'1), (3, (.ref 1003 0))] [(1003, a'3)] (by kernel_rfl) (by kernel_rfl) ?_
 let a'4 : AV := (.own 1011 ((l.map D.Answer.cells).length))
 refine AWp.s_reg hGn hGk [.a, .m (some 11) ⟨[(10, a'1)], [], a'4, [(1011, (.arr 6 (l.map D.Answer.cells)))], [1011]⟩, .a] ⟨StepOK.p rfl rfl rfl (OpOK.appendNew (e := 39) (bytes := 48) rfl rfl (by kernel_rfl) (by kernel_rfl) (by kernel_rfl) rfl rfl rfl rfl (.inl rfl) (by simp only [List.length_map, List.length_cons, List.length_nil, List.length_append, List.length_take, List.length_drop]; omega) (by simp only [List.length_map, List.length_cons, List.length_nil, List.length_append, List.length_take, List.length_drop]; omega)), trivial⟩ [(0, a'1), (3, (.ref 1003 0)), (6, a'4)] [(1003, a'3), (1011, (.arr 6 (l.map D.Answer.cells)))] (by kernel_rfl) (by kernel_rfl) ?_
 refine AWp.seq ?_
 refine AWp.s_reg hGn hGk [.a, .m (some 13) ⟨[(12, a'2)], [], (vB (ansValid a)), [], []⟩, .a] ⟨StepOK.p rfl rfl rfl (OpOK.call rfl (by kernel_rfl) rfl (r28_Valid a) (by kernel_rfl)), trivial⟩ [(0, a'1), (3, (.ref 1003 0)), (6, a'4), (14, (vB (!(ansValid a))))] [(1003, a'3), (1011, (.arr 6 (l.map D.Answer.cells)))] (by kernel_rfl) (by kernel_rfl) ?_
 refine AWp.cond (!(ansValid a)) rfl (fun hc1 => ?_) (fun hc1 => ?_)
 ·skip
  replace hc1 : ansValid a = false := by simpa using hc1
  refine AWp.s_reg hGn hGk (aa 3) (Man.aa _ _) [(4, a'4), (5, (vB false))] [(1011, (.arr 6 (l.map D.Answer.cells)))] (by kernel_rfl) (by kernel_rfl) ?_
  refine AWp.weaken (mk [(4, a'1), (5, (vB false))] []) (Weak.freeze (n := 1011) (es := 6) (rows := (l.map D.Answer.cells)) (by rw [hGk]; decide) ⟨rfl, .own, ⟨rfl, (.same rfl), trivial⟩⟩ trivial) ?_
  refine AWp.ret ?_
  refine nextQ_ret ?_
  refine fin_of (.inr rfl) (v := (.tup [(.p (.sl false 6 (l.map D.Answer.cells))), (vB false)])) (Res.many (by kernel_rfl) (Res1s.cons (Res1.tmp rfl) (Res1s.cons (Res1.tmp rfl) Res1s.nil))) (h' := []) rfl rfl ?_
  exact ⟨by rw [mergeA_no (l := l) (a := a) (by first | (left; assumption) | (right; exact ⟨i, by omega, by assumption⟩))] <;> rfl, rfl⟩
 ·skip
  replace hc1 : ansValid a = true := by simpa using hc1
  have ha2 := ansValid_spec hc1
  refine AWp.skip ?_
  refine nextQ_normal ?_
  refine AWp.seq ?_
  refine AWp.s_reg hGn hGk (aa 1) (Man.aa _ _) [(0, a'1), (3, (.ref 1003 0)), (6, a'4), (7, (vI 0))] [(1003, a'3), (1011, (.arr 6 (l.map D.Answer.cells)))] (by kernel_rfl) (by kernel_rfl) ?_
  refine AWp.block ?_
  refine AWp.loop (fun m s => ∃ i, s = (mk [(0, (.p (.sl false 6 (l.map D.Answer.cells)))), (3, (.ref 1003 0)), (6, (.own 1011 ((l.map D.Answer.cells).length))), (7, (vI ((i : Nat) : Int)))] [(1003, (.box [(vI a.ID), (vI a.Page), (vI a.Person), (vI a.Kind), (vI a.Arg), (vI a.At)])), (1011, (.arr 6 (l.map D.Answer.cells)))]) ∧ (i ≤ l.length) ∧ (∀ j, j < i → (nth l j).ID ≠ a.ID) ∧ m = (l.length - i))
   ⟨_, 0, rfl, (by omega), (by intro j hj; omega), rfl⟩ ?_
  rintro mm3 s ⟨i, rfl, hi, hn, hmm3⟩
  refine AWp.seq ?_
  refine AWp.s_reg hGn hGk [.a, .a, .m (some 18) ⟨[(17, a'1)], [], (vI ((l.length : Nat) : Int)), [], []⟩, .a] ⟨StepOK.p rfl rfl rfl (OpOK.lenP (e := 39) rfl rfl (by kernel_rfl) rfl (by rw [List.length_map])), trivial⟩ [(0, a'1), (3, (.ref 1003 0)), (6, a'4), (7, (vI ((i : Nat) : Int))), (19, (vB (decide (((i : Nat) : Int) < ((l.length : Nat) : Int)))))] [(1003, a'3), (1011, (.arr 6 (l.map D.Answer.cells)))] (by kernel_rfl) (by kernel_rfl) ?_
  refine AWp.cond (decide (((i : Nat) : Int) < ((l.length : Nat) : Int))) rfl (fun hc4 => ?_) (fun hc4 => ?_)
  ·skip
   replace hc4 := of_decide_eq_true hc4
   refine AWp.skip ?_
   refine nextQ_normal ?_
   refine AWp.seq ?_
   refine AWp.block ?_
   refine AWp.s_dreg hGn hGk (by kernel_rfl) [.a, .a, .m (some 24) ⟨[(22, a'1), (23, (vI ((i : Nat) : Int)))], [], (.eptr [(pI ((nth l i).ID)), (pI ((nth l i).Page)), (pI ((nth l i).Person)), (pI ((nth l i).Kind)), (pI ((nth l i).Arg)), (pI ((nth l i).At))]), [], []⟩, .a, .a, .a, .a, .a] ⟨StepOK.p rfl rfl rfl (OpOK.indexP (e := 39) rfl (by kernel_rfl) (by kernel_rfl) rfl rfl rfl (map_nth (by omega))), trivial⟩ [(0, a'1), (3, (.ref 1003 0)), (6, a'4), (7, (vI ((i : Nat) : Int))), (29, (vB (decide (((nth l i).ID) = a.ID))))] [(1003, a'3), (1011, (.arr 6 (l.map D.Answer.cells)))] (by kernel_rfl) (by kernel_rfl) (by kernel_rfl) ?_
   refine AWp.cond (decide (((nth l i).ID) = a.ID)) rfl (fun hc5 => ?_) (fun hc5 => ?_)
   ·skip
    replace hc5 := of_decide_eq_true hc5
    refine AWp.s_reg hGn hGk (aa 3) (Man.aa _ _) [(4, a'4), (5, (vB false))] [(1011, (.arr 6 (l.map D.Answer.cells)))] (by kernel_rfl) (by kernel_rfl) ?_
    refine AWp.weaken (mk [(4, a'1), (5, (vB false))] []) (Weak.freeze (n := 1011) (es := 6) (rows := (l.map D.Answer.cells)) (by rw [hGk]; decide) ⟨rfl, .own, ⟨rfl, (.same rfl), trivial⟩⟩ trivial) ?_
    refine AWp.ret ?_
    refine blockQ_ret ?_
    refine nextQ_ret ?_
    refine nextQ_ret ?_
    refine blockQ_ret ?_
    refine nextQ_ret ?_
    refine fin_of (.inr rfl) (v := (.tup [(.p (.sl false 6 (l.map D.Answer.cells))), (vB false)])) (Res.many (by kernel_rfl) (Res1s.cons (Res1.tmp rfl) (Res1s.cons (Res1.tmp rfl) Res1s.nil))) (h' := []) rfl rfl ?_
    exact ⟨by rw [mergeA_no (l := l) (a := a) (by first | (left; assumption) | (right; exact ⟨i, by omega, by assumption⟩))] <;> rfl, rfl⟩
   ·skip
    replace hc5 := of_decide_eq_false hc5
    refine AWp.skip ?_
    refine blockQ_normal ?_
    refine nextQ_normal ?_
    refine AWp.reg' hGn hGk [.a, .m (some 21) ⟨[(20, (vI ((i : Nat) : Int)))], [], (vI ((i + 1 : Nat) : Int)), [], []⟩, .a] ⟨StepOK.p rfl rfl rfl (OpOK.add rfl rfl rfl (by rw [IntWalk.i64_in _ ⟨by omega, by omega⟩]; omega)), trivial⟩ [(0, a'1), (3, (.ref 1003 0)), (6, a'4), (7, (vI ((i + 1 : Nat) : Int)))] [(1003, a'3), (1011, (.arr 6 (l.map D.Answer.cells)))] (by kernel_rfl) (by kernel_rfl) ?_
    refine nextQ_normal ⟨_, ?_, (i + 1), rfl, (by omega), (fun j hj => by rcases Nat.lt_or_ge j i with h | h; exact hn j h; rw [show j = i from by omega]; assumption), rfl⟩
    · omega
  ·skip
   replace hc4 := of_decide_eq_false hc4
   refine AWp.weaken (mk [(0, a'1), (3, (.ref 1003 0)), (6, a'4)] [(1003, a'3), (1011, (.arr 6 (l.map D.Answer.cells)))]) (Weak.sub' hGk (by kernel_rfl)) ?_
   refine AWp.exit ?_
   refine nextQ_exit ?_
   refine nextQ_exit ?_
   refine blockQ_exit ?_
   refine nextQ_normal ?_
   refine AWp.s_reg hGn hGk (aa 1) (Man.aa _ _) [(0, a'1), (3, (.ref 1003 0)), (6, a'4), (8, (vI 0))] [(1003, a'3), (1011, (.arr 6 (l.map D.Answer.cells)))] (by kernel_rfl) (by kernel_rfl) ?_
   refine AWp.seq ?_
   refine AWp.s_reg hGn hGk (aa 1) (Man.aa _ _) [(0, a'1), (3, (.ref 1003 0)), (6, a'4), (8, (vI 0)), (9, (vI 0))] [(1003, a'3), (1011, (.arr 6 (l.map D.Answer.cells)))] (by kernel_rfl) (by kernel_rfl) ?_
   refine AWp.block ?_
   refine AWp.loop (fun m s => ∃ k, s = (mk [(0, (.p (.sl false 6 (l.map D.Answer.cells)))), (3, (.ref 1003 0)), (6, (.own 1011 ((l.map D.Answer.cells).length))), (8, (vI ((insK l a k : Nat) : Int))), (9, (vI ((k : Nat) : Int)))] [(1003, (.box [(vI a.ID), (vI a.Page), (vI a.Person), (vI a.Kind), (vI a.Arg), (vI a.At)])), (1011, (.arr 6 (l.map D.Answer.cells)))]) ∧ (k ≤ l.length) ∧ m = (l.length - k))
    ⟨_, 0, rfl, (by omega), rfl⟩ ?_
   rintro mm6 s ⟨k, rfl, hk2, hmm6⟩
   have hkk := insK_le l a k
   refine AWp.seq ?_
   refine AWp.s_reg hGn hGk [.a, .a, .m (some 33) ⟨[(32, a'1)], [], (vI ((l.length : Nat) : Int)), [], []⟩, .a] ⟨StepOK.p rfl rfl rfl (OpOK.lenP (e := 39) rfl rfl (by kernel_rfl) rfl (by rw [List.length_map])), trivial⟩ [(0, a'1), (3, (.ref 1003 0)), (6, a'4), (8, (vI ((insK l a k : Nat) : Int))), (9, (vI ((k : Nat) : Int))), (34, (vB (decide (((k : Nat) : Int) < ((l.length : Nat) : Int)))))] [(1003, a'3), (1011, (.arr 6 (l.map D.Answer.cells)))] (by kernel_rfl) (by kernel_rfl) ?_
   refine AWp.cond (decide (((k : Nat) : Int) < ((l.length : Nat) : Int))) rfl (fun hc7 => ?_) (fun hc7 => ?_)
   ·skip
    replace hc7 := of_decide_eq_true hc7
    refine AWp.skip ?_
    refine nextQ_normal ?_
    refine AWp.seq ?_
    refine AWp.block ?_
    by_cases hs8 : ((nth l k).At) < a.At
    ·skip
     first | refine AWp.cast (show (mk [(0, (.p (.sl false 6 (l.map D.Answer.cells)))), (3, (.ref 1003 0)), (6, (.own 1011 ((l.map D.Answer.cells).length))), (8, (vI ((insK l a k : Nat) : Int))), (9, (vI ((k : Nat) : Int))), (34, (vB (decide (((k : Nat) : Int) < ((l.length : Nat) : Int)))))] [(1003, (.box [(vI a.ID), (vI a.Page), (vI a.Person), (vI a.Kind), (vI a.Arg), (vI a.At)])), (1011, (.arr 6 (l.map D.Answer.cells)))]) = (mk [(0, (.p (.sl false 6 (l.map D.Answer.cells)))), (3, (.ref 1003 0)), (6, (.own 1011 ((l.map D.Answer.cells).length))), (8, (vI ((insK l a k : Nat) : Int))), (9, (vI ((k : Nat) : Int))), (34, (vB true))] [(1003, (.box [(vI a.ID), (vI a.Page), (vI a.Person), (vI a.Kind), (vI a.Arg), (vI a.At)])), (1011, (.arr 6 (l.map D.Answer.cells)))]) from by rw [(decide_eq_true hc7)]) ?_ | skip
     refine AWp.s_dreg hGn hGk (by kernel_rfl) [.a, .a, .m (some 39) ⟨[(37, a'1), (38, (vI ((k : Nat) : Int)))], [], (.eptr [(pI ((nth l k).ID)), (pI ((nth l k).Page)), (pI ((nth l k).Person)), (pI ((nth l k).Kind)), (pI ((nth l k).Arg)), (pI ((nth l k).At))]), [], []⟩, .a, .a, .a, .a, .m (some 44) ⟨[(41, (vI ((nth l k).At))), (43, (vI a.At))], [], (vB true), [], []⟩, .a, .a, .a, .a, .a, .a, .a, .a, .a, .a, .a, .a, .a, .a, .a, .a, .a, .a, .a, .a] ⟨StepOK.p rfl rfl rfl (OpOK.indexP (e := 39) rfl (by kernel_rfl) (by kernel_rfl) rfl rfl rfl (map_nth (by omega))),
      StepOK.p rfl rfl rfl (OpOK.lss rfl rfl rfl (decide_eq_true hs8)), trivial⟩ [(0, a'1), (3, (.ref 1003 0)), (6, a'4), (8, (vI ((insK l a k : Nat) : Int))), (9, (vI ((k : Nat) : Int))), (64, (vB true))] [(1003, a'3), (1011, (.arr 6 (l.map D.Answer.cells)))] (by kernel_rfl) (by kernel_rfl) (by kernel_rfl) ?_
     refine AWp.cond_true rfl ?_
     refine AWp.reg' hGn hGk [.a, .m (some 66) ⟨[(65, (vI ((k : Nat) : Int)))], [], (vI ((k + 1 : Nat) : Int)), [], []⟩, .a] ⟨StepOK.p rfl rfl rfl (OpOK.add rfl rfl rfl (by rw [IntWalk.i64_in _ ⟨by omega, by omega⟩]; omega)), trivial⟩ [(0, a'1), (3, (.ref 1003 0)), (6, a'4), (8, (vI ((k + 1 : Nat) : Int))), (9, (vI ((k : Nat) : Int)))] [(1003, a'3), (1011, (.arr 6 (l.map D.Answer.cells)))] (by kernel_rfl) (by kernel_rfl) ?_
     refine blockQ_normal ?_
     refine nextQ_normal ?_
     refine AWp.reg' hGn hGk [.a, .m (some 36) ⟨[(35, (vI ((k : Nat) : Int)))], [], (vI ((k + 1 : Nat) : Int)), [], []⟩, .a] ⟨StepOK.p rfl rfl rfl (OpOK.add rfl rfl rfl (by rw [IntWalk.i64_in _ ⟨by omega, by omega⟩]; omega)), trivial⟩ [(0, a'1), (3, (.ref 1003 0)), (6, a'4), (8, (vI ((k + 1 : Nat) : Int))), (9, (vI ((k + 1 : Nat) : Int)))] [(1003, a'3), (1011, (.arr 6 (l.map D.Answer.cells)))] (by kernel_rfl) (by kernel_rfl) ?_
     refine nextQ_normal ⟨_, ?_, (k + 1), (by rw [insK_yes (by unfold ltP; omega)] <;> rfl), (by omega), rfl⟩
     · omega
    ·skip
     first | refine AWp.cast (show (mk [(0, (.p (.sl false 6 (l.map D.Answer.cells)))), (3, (.ref 1003 0)), (6, (.own 1011 ((l.map D.Answer.cells).length))), (8, (vI ((insK l a k : Nat) : Int))), (9, (vI ((k : Nat) : Int))), (34, (vB (decide (((k : Nat) : Int) < ((l.length : Nat) : Int)))))] [(1003, (.box [(vI a.ID), (vI a.Page), (vI a.Person), (vI a.Kind), (vI a.Arg), (vI a.At)])), (1011, (.arr 6 (l.map D.Answer.cells)))]) = (mk [(0, (.p (.sl false 6 (l.map D.Answer.cells)))), (3, (.ref 1003 0)), (6, (.own 1011 ((l.map D.Answer.cells).length))), (8, (vI ((insK l a k : Nat) : Int))), (9, (vI ((k : Nat) : Int))), (34, (vB true))] [(1003, (.box [(vI a.ID), (vI a.Page), (vI a.Person), (vI a.Kind), (vI a.Arg), (vI a.At)])), (1011, (.arr 6 (l.map D.Answer.cells)))]) from by rw [(decide_eq_true hc7)]) ?_ | skip
     by_cases hs9 : ((nth l k).At) = a.At
     ·skip
      refine AWp.s_dreg hGn hGk (by kernel_rfl) [.a, .a, .m (some 39) ⟨[(37, a'1), (38, (vI ((k : Nat) : Int)))], [], (.eptr [(pI ((nth l k).ID)), (pI ((nth l k).Page)), (pI ((nth l k).Person)), (pI ((nth l k).Kind)), (pI ((nth l k).Arg)), (pI ((nth l k).At))]), [], []⟩, .a, .a, .a, .a, .m (some 44) ⟨[(41, (vI ((nth l k).At))), (43, (vI a.At))], [], (vB false), [], []⟩, .a, .a, .a, .m (some 48) ⟨[(46, a'1), (47, (vI ((k : Nat) : Int))), (45, (vB false))], [], (.eptr [(pI ((nth l k).ID)), (pI ((nth l k).Page)), (pI ((nth l k).Person)), (pI ((nth l k).Kind)), (pI ((nth l k).Arg)), (pI ((nth l k).At))]), [], []⟩, .a, .a, .a, .a, .m (some 53) ⟨[(50, (vI ((nth l k).At))), (52, (vI a.At)), (45, (vB false))], [], (vB true), [], []⟩, .a, .a, .a, .m (some 57) ⟨[(55, a'1), (56, (vI ((k : Nat) : Int))), (54, (vB true))], [], (.eptr [(pI ((nth l k).ID)), (pI ((nth l k).Page)), (pI ((nth l k).Person)), (pI ((nth l k).Kind)), (pI ((nth l k).Arg)), (pI ((nth l k).At))]), [], []⟩, .a, .a, .a, .a, .a, .a, .a] ⟨StepOK.p rfl rfl rfl (OpOK.indexP (e := 39) rfl (by kernel_rfl) (by kernel_rfl) rfl rfl rfl (map_nth (by omega))),
       StepOK.p rfl rfl rfl (OpOK.lss rfl rfl rfl (decide_eq_false hs8)),
       StepOK.g rfl rfl rfl rfl rfl (by simp) (OpOK.indexP (e := 39) rfl (by kernel_rfl) (by kernel_rfl) rfl rfl rfl (map_nth (by omega))),
       StepOK.g rfl rfl rfl rfl rfl (by simp) (OpOK.eqlI rfl rfl rfl (decide_eq_true hs9)),
       StepOK.g rfl rfl rfl rfl rfl (by simp) (OpOK.indexP (e := 39) rfl (by kernel_rfl) (by kernel_rfl) rfl rfl rfl (map_nth (by omega))), trivial⟩ [(0, a'1), (3, (.ref 1003 0)), (6, a'4), (8, (vI ((insK l a k : Nat) : Int))), (9, (vI ((k : Nat) : Int))), (64, (vB (decide (((nth l k).ID) < a.ID))))] [(1003, a'3), (1011, (.arr 6 (l.map D.Answer.cells)))] (by kernel_rfl) (by kernel_rfl) (by kernel_rfl) ?_
      refine AWp.cond (decide (((nth l k).ID) < a.ID)) rfl (fun hc10 => ?_) (fun hc10 => ?_)
      ·skip
       replace hc10 := of_decide_eq_true hc10
       refine AWp.reg' hGn hGk [.a, .m (some 66) ⟨[(65, (vI ((k : Nat) : Int)))], [], (vI ((k + 1 : Nat) : Int)), [], []⟩, .a] ⟨StepOK.p rfl rfl rfl (OpOK.add rfl rfl rfl (by rw [IntWalk.i64_in _ ⟨by omega, by omega⟩]; omega)), trivial⟩ [(0, a'1), (3, (.ref 1003 0)), (6, a'4), (8, (vI ((k + 1 : Nat) : Int))), (9, (vI ((k : Nat) : Int)))] [(1003, a'3), (1011, (.arr 6 (l.map D.Answer.cells)))] (by kernel_rfl) (by kernel_rfl) ?_
       refine blockQ_normal ?_
       refine nextQ_normal ?_
       refine AWp.reg' hGn hGk [.a, .m (some 36) ⟨[(35, (vI ((k : Nat) : Int)))], [], (vI ((k + 1 : Nat) : Int)), [], []⟩, .a] ⟨StepOK.p rfl rfl rfl (OpOK.add rfl rfl rfl (by rw [IntWalk.i64_in _ ⟨by omega, by omega⟩]; omega)), trivial⟩ [(0, a'1), (3, (.ref 1003 0)), (6, a'4), (8, (vI ((k + 1 : Nat) : Int))), (9, (vI ((k + 1 : Nat) : Int)))] [(1003, a'3), (1011, (.arr 6 (l.map D.Answer.cells)))] (by kernel_rfl) (by kernel_rfl) ?_
       refine nextQ_normal ⟨_, ?_, (k + 1), (by rw [insK_yes (by unfold ltP; omega)] <;> rfl), (by omega), rfl⟩
       · omega
      ·skip
       replace hc10 := of_decide_eq_false hc10
       refine AWp.skip ?_
       refine blockQ_normal ?_
       refine nextQ_normal ?_
       refine AWp.reg' hGn hGk [.a, .m (some 36) ⟨[(35, (vI ((k : Nat) : Int)))], [], (vI ((k + 1 : Nat) : Int)), [], []⟩, .a] ⟨StepOK.p rfl rfl rfl (OpOK.add rfl rfl rfl (by rw [IntWalk.i64_in _ ⟨by omega, by omega⟩]; omega)), trivial⟩ [(0, a'1), (3, (.ref 1003 0)), (6, a'4), (8, (vI ((insK l a k : Nat) : Int))), (9, (vI ((k + 1 : Nat) : Int)))] [(1003, a'3), (1011, (.arr 6 (l.map D.Answer.cells)))] (by kernel_rfl) (by kernel_rfl) ?_
       refine nextQ_normal ⟨_, ?_, (k + 1), (by rw [insK_no (by unfold ltP; omega)] <;> rfl), (by omega), rfl⟩
       · omega
     ·skip
      refine AWp.s_dreg hGn hGk (by kernel_rfl) [.a, .a, .m (some 39) ⟨[(37, a'1), (38, (vI ((k : Nat) : Int)))], [], (.eptr [(pI ((nth l k).ID)), (pI ((nth l k).Page)), (pI ((nth l k).Person)), (pI ((nth l k).Kind)), (pI ((nth l k).Arg)), (pI ((nth l k).At))]), [], []⟩, .a, .a, .a, .a, .m (some 44) ⟨[(41, (vI ((nth l k).At))), (43, (vI a.At))], [], (vB false), [], []⟩, .a, .a, .a, .m (some 48) ⟨[(46, a'1), (47, (vI ((k : Nat) : Int))), (45, (vB false))], [], (.eptr [(pI ((nth l k).ID)), (pI ((nth l k).Page)), (pI ((nth l k).Person)), (pI ((nth l k).Kind)), (pI ((nth l k).Arg)), (pI ((nth l k).At))]), [], []⟩, .a, .a, .a, .a, .m (some 53) ⟨[(50, (vI ((nth l k).At))), (52, (vI a.At)), (45, (vB false))], [], (vB false), [], []⟩, .a, .a, .a, .a, .a, .a, .a, .a, .a, .a, .a] ⟨StepOK.p rfl rfl rfl (OpOK.indexP (e := 39) rfl (by kernel_rfl) (by kernel_rfl) rfl rfl rfl (map_nth (by omega))),
       StepOK.p rfl rfl rfl (OpOK.lss rfl rfl rfl (decide_eq_false hs8)),
       StepOK.g rfl rfl rfl rfl rfl (by simp) (OpOK.indexP (e := 39) rfl (by kernel_rfl) (by kernel_rfl) rfl rfl rfl (map_nth (by omega))),
       StepOK.g rfl rfl rfl rfl rfl (by simp) (OpOK.eqlI rfl rfl rfl (decide_eq_false hs9)), trivial⟩ [(0, a'1), (3, (.ref 1003 0)), (6, a'4), (8, (vI ((insK l a k : Nat) : Int))), (9, (vI ((k : Nat) : Int))), (64, (vB false))] [(1003, a'3), (1011, (.arr 6 (l.map D.Answer.cells)))] (by kernel_rfl) (by kernel_rfl) (by kernel_rfl) ?_
      refine AWp.cond_false rfl ?_
      refine AWp.skip ?_
      refine blockQ_normal ?_
      refine nextQ_normal ?_
      refine AWp.reg' hGn hGk [.a, .m (some 36) ⟨[(35, (vI ((k : Nat) : Int)))], [], (vI ((k + 1 : Nat) : Int)), [], []⟩, .a] ⟨StepOK.p rfl rfl rfl (OpOK.add rfl rfl rfl (by rw [IntWalk.i64_in _ ⟨by omega, by omega⟩]; omega)), trivial⟩ [(0, a'1), (3, (.ref 1003 0)), (6, a'4), (8, (vI ((insK l a k : Nat) : Int))), (9, (vI ((k + 1 : Nat) : Int)))] [(1003, a'3), (1011, (.arr 6 (l.map D.Answer.cells)))] (by kernel_rfl) (by kernel_rfl) ?_
      refine nextQ_normal ⟨_, ?_, (k + 1), (by rw [insK_no (by unfold ltP; omega)] <;> rfl), (by omega), rfl⟩
      · omega
   ·skip
    replace hc7 := of_decide_eq_false hc7
    refine AWp.weaken (mk [(3, (.ref 1003 0)), (6, a'4), (8, (vI ((insK l a k : Nat) : Int)))] [(1003, a'3), (1011, (.arr 6 (l.map D.Answer.cells)))]) (Weak.sub' hGk (by kernel_rfl)) ?_
    refine AWp.exit ?_
    refine nextQ_exit ?_
    refine nextQ_exit ?_
    refine blockQ_exit ?_
    refine nextQ_normal ?_
    let a'5 : AV := (.own 1011 (((l ++ [a]).map D.Answer.cells).length))
    let a'6 : AO := (.arr 6 ((l ++ [a]).map D.Answer.cells))
    refine AWp.s_reg hGn hGk [.a, .a, .a, .m (some 70) ⟨[(67, a'4), (69, (.p (.sl true 6 [[(pI a.ID), (pI a.Page), (pI a.Person), (pI a.Kind), (pI a.Arg), (pI a.At)]])))], [(1011, (.arr 6 (l.map D.Answer.cells)))], a'5, [(1011, a'6)], []⟩, .a] ⟨StepOK.p rfl rfl rfl (OpOK.appendOwn (e := 39) (bytes := 48) rfl rfl (by kernel_rfl) (by kernel_rfl) rfl (Nat.beq_refl _) rfl (by rw [List.map_append]; rfl) rfl (by simp only [List.length_map, List.length_cons, List.length_nil]; omega) (by simp only [List.length_map, List.length_cons, List.length_nil]; omega)), trivial⟩ [(3, (.ref 1003 0)), (6, a'5), (8, (vI ((insK l a k : Nat) : Int)))] [(1003, a'3), (1011, a'6)] (by kernel_rfl) (by kernel_rfl) ?_
    refine AWp.nameS 6 (n0 := 3000) (by rw [hGk]; decide) (by kernel_rfl) (by kernel_rfl) (by decide) rfl (fun xh => ?_)
    let a'7 : AO := (.fact a'5 xh)
    let a'8 : AO := (.arr 6 ((shiftL (l ++ [a]) (insK l a k)).map D.Answer.cells))
    refine AWp.s_dreg hGn hGk (by kernel_rfl) [.a, .a, .m (some 73) ⟨[(72, (vI ((insK l a k : Nat) : Int)))], [], (vI (((insK l a k) + 1 : Nat) : Int)), [], []⟩, .m (some 74) ⟨[(71, a'5), (73, (vI (((insK l a k) + 1 : Nat) : Int)))], [(3000, a'7), (1011, a'6)], (.p (.v (subV xh ((insK l a k) + 1) 6))), [], []⟩, .a, .a, .m (some 77) ⟨[(75, a'5), (76, (vI ((insK l a k : Nat) : Int)))], [(3000, a'7), (1011, a'6)], (.p (.v (subV xh (insK l a k) 6))), [], []⟩, .m (some 78) ⟨[(74, (.p (.v (subV xh ((insK l a k) + 1) 6)))), (77, (.p (.v (subV xh (insK l a k) 6))))], [(3000, a'7), (1011, a'6)], (vI ((((l ++ [a]).map D.Answer.cells).length - ((insK l a k) + 1) : Nat) : Int)), [(1011, a'8)], []⟩] ⟨StepOK.p rfl rfl rfl (OpOK.add rfl rfl rfl (by rw [IntWalk.i64_in _ ⟨by omega, by omega⟩]; omega)),
     StepOK.p rfl rfl rfl (OpOK.sliceOwn (e := 39) (es := 6) (n0 := 3000) (k := (insK l a k) + 1) rfl (by kernel_rfl) (by kernel_rfl) rfl rfl rfl (Nat.beq_refl _) (by simp only [List.length_map, List.length_append, List.length_cons, List.length_nil]; omega)),
     StepOK.p rfl rfl rfl (OpOK.sliceOwn (e := 39) (es := 6) (n0 := 3000) (k := insK l a k) rfl (by kernel_rfl) (by kernel_rfl) rfl rfl rfl (Nat.beq_refl _) (by simp only [List.length_map, List.length_append, List.length_cons, List.length_nil]; omega)),
     StepOK.p rfl rfl rfl (OpOK.copyOwn (e := 39) (es := 6) (n0 := 3000) (i := (insK l a k) + 1) (j := insK l a k) rfl rfl (by kernel_rfl) (by kernel_rfl) rfl rfl (Nat.beq_refl _) (by simp only [List.length_map, List.length_append, List.length_cons, List.length_nil]; omega) (by omega) (shiftL_rows _ _) rfl), trivial⟩ [(3, (.ref 1003 0)), (6, a'5), (8, (vI ((insK l a k : Nat) : Int)))] [(3000, a'7), (1003, a'3), (1011, a'8)] (by kernel_rfl) (by kernel_rfl) (by kernel_rfl) ?_
    have hsl := shiftL_len l a (k := insK l a k) (by omega)
    refine AWp.weaken (mk [(3, (.ref 1003 0)), (6, a'5), (8, (vI ((insK l a k : Nat) : Int)))] [(1003, a'3), (1011, a'8)]) (Weak.sub' hGk (by kernel_rfl)) ?_
    refine AWp.cast (show (mk [(3, (.ref 1003 0)), (6, (.own 1011 (((l ++ [a]).map D.Answer.cells).length))), (8, (vI ((insK l a k : Nat) : Int)))] [(1003, (.box [(vI a.ID), (vI a.Page), (vI a.Person), (vI a.Kind), (vI a.Arg), (vI a.At)])), (1011, (.arr 6 ((shiftL (l ++ [a]) (insK l a k)).map D.Answer.cells)))]) = (mk [(3, (.ref 1003 0)), (6, (.own 1011 (((shiftL (l ++ [a]) (insK l a k)).map D.Answer.cells).length))), (8, (vI ((insK l a k : Nat) : Int)))] [(1003, (.box [(vI a.ID), (vI a.Page), (vI a.Person), (vI a.Kind), (vI a.Arg), (vI a.At)])), (1011, (.arr 6 ((shiftL (l ++ [a]) (insK l a k)).map D.Answer.cells)))]) from (by simp only [List.length_map]; rw [shiftL_len l a (by omega)]; simp only [List.length_append, List.length_cons, List.length_nil])) ?_
    refine AWp.s_reg hGn hGk [.a, .a, .a, .m (some 82) ⟨[(79, (.own 1011 (((shiftL (l ++ [a]) (insK l a k)).map D.Answer.cells).length))), (80, (vI ((insK l a k : Nat) : Int)))], [(1011, a'8)], (.aref 1011 (((shiftL (l ++ [a]) (insK l a k)).map D.Answer.cells).length) (insK l a k) 0), [], []⟩, .m none ⟨[(82, (.aref 1011 (((shiftL (l ++ [a]) (insK l a k)).map D.Answer.cells).length) (insK l a k) 0)), (81, a'2)], [(1011, a'8)], .any, [(1011, (.arr 6 (((l.take (insK l a k) ++ [a]) ++ l.drop (insK l a k)).map D.Answer.cells)))], []⟩] ⟨StepOK.p rfl rfl rfl (OpOK.indexOwn (e := 39) rfl (by kernel_rfl) (by kernel_rfl) rfl (Nat.beq_refl _) rfl rfl (by simp only [List.length_map]; omega)),
     StepOK.p rfl rfl rfl (OpOK.storeElem rfl rfl rfl rfl rfl rfl (Nat.beq_refl _) (map_nth (by omega)) (by kernel_rfl) (by kernel_rfl) rfl (shiftL_rowset (by omega))), trivial⟩ [(6, (.own 1011 (((shiftL (l ++ [a]) (insK l a k)).map D.Answer.cells).length)))] [(1011, (.arr 6 (((l.take (insK l a k) ++ [a]) ++ l.drop (insK l a k)).map D.Answer.cells)))] (by kernel_rfl) (by kernel_rfl) ?_
    refine AWp.cast (show (mk [(6, (.own 1011 (((shiftL (l ++ [a]) (insK l a k)).map D.Answer.cells).length)))] [(1011, (.arr 6 (((l.take (insK l a k) ++ [a]) ++ l.drop (insK l a k)).map D.Answer.cells)))]) = (mk [(6, (.own 1011 ((((l.take (insK l a k) ++ [a]) ++ l.drop (insK l a k)).map D.Answer.cells).length)))] [(1011, (.arr 6 (((l.take (insK l a k) ++ [a]) ++ l.drop (insK l a k)).map D.Answer.cells)))]) from (by simp only [List.length_map]; rw [shiftL_len l a (by omega), insL_len l a (by omega)])) ?_
    refine AWp.weaken (mk [(6, (.p (.sl false 6 (((l.take (insK l a k) ++ [a]) ++ l.drop (insK l a k)).map D.Answer.cells))))] []) (Weak.freeze (n := 1011) (es := 6) (rows := (((l.take (insK l a k) ++ [a]) ++ l.drop (insK l a k)).map D.Answer.cells)) (by rw [hGk]; decide) ⟨rfl, .own, trivial⟩ trivial) ?_
    refine AWp.s_reg hGn hGk (aa 3) (Man.aa _ _) [(4, (.p (.sl false 6 (((l.take (insK l a k) ++ [a]) ++ l.drop (insK l a k)).map D.Answer.cells)))), (5, (vB true))] [] (by kernel_rfl) (by kernel_rfl) ?_
    refine AWp.ret ?_
    refine fin_of (.inr rfl) (v := (.tup [(.p (.sl false 6 (((l.take (insK l a k) ++ [a]) ++ l.drop (insK l a k)).map D.Answer.cells))), (vB true)])) (Res.many (by kernel_rfl) (Res1s.cons (Res1.tmp rfl) (Res1s.cons (Res1.tmp rfl) Res1s.nil))) (h' := []) rfl rfl ?_
    exact ⟨by rw [mergeA_yes (l := l) (a := a) (by assumption) (fun j hj => hn j (by omega)), show l.length = k by omega] <;> rfl, rfl⟩

theorem ans_Of (l : List D.Answer) (p : Int) (hl : l.length ≤ 1000000) :
    SpecIs Tryz.prog 28 [(.p (.sl false 6 (l.map D.Answer.cells))), (vI p)] [] (.p (.sl false 6 ((ofA l p).map D.Answer.cells))) [] := by
 refine Spec.intro Tryz.func28 rfl (by kernel_rfl) ?_
 intro Γ hGn hGk
 replace hGn : Γ.n = 24 := hGn
 replace hGk : Γ.names = [] := hGk
 let a'1 : AV := (.p (.sl false 6 (l.map D.Answer.cells)))
 refine AWp.weaken (mk [(0, a'1), (1, (vI p))] []) (Weak.sub' hGk (by kernel_rfl)) ?_
 refine AWp.s_reg hGn hGk (aa 1) (Man.aa _ _) [(0, a'1), (1, (vI p))] [] (by kernel_rfl) (by kernel_rfl) ?_
 refine AWp.s_reg hGn hGk (aa 1) (Man.aa _ _) [(0, a'1), (1, (vI p)), (5, (.p (.sl true 0 [])))] [] (by kernel_rfl) (by kernel_rfl) ?_
 refine AWp.seq ?_
 refine AWp.s_reg hGn hGk [.a, .m (some 9) ⟨[(8, a'1)], [], (vI ((l.length : Nat) : Int)), [], []⟩, .a] ⟨StepOK.p rfl rfl rfl (OpOK.lenP (e := 39) rfl rfl (by kernel_rfl) rfl (by rw [List.length_map])), trivial⟩ [(1, (vI p)), (5, (.p (.sl true 0 []))), (8, a'1), (9, (vI ((l.length : Nat) : Int))), (10, (vI 0))] [] (by kernel_rfl) (by kernel_rfl) ?_
 refine AWp.block ?_
 refine AWp.weaken (mk [(1, (vI p)), (5, (.own 2000 0)), (8, a'1), (9, (vI ((l.length : Nat) : Int))), (10, (vI 0))] [(2000, (.arr 6 []))]) (Weak.thaw (t := 5) (es0 := 0) (by kernel_rfl) rfl (by kernel_rfl) (by kernel_rfl) (by kernel_rfl)) ?_
 refine AWp.loop (fun m s => ∃ i, s = (mk [(1, (vI p)), (5, (.own 2000 (((ofI l p i).map D.Answer.cells).length))), (8, (.p (.sl false 6 (l.map D.Answer.cells)))), (9, (vI ((l.length : Nat) : Int))), (10, (vI ((i : Nat) : Int)))] [(2000, (.arr 6 ((ofI l p i).map D.Answer.cells)))]) ∧ (i ≤ l.length) ∧ m = (l.length - i))
  ⟨_, 0, rfl, (by omega), rfl⟩ ?_
 rintro mm1 s ⟨i, rfl, hi, hmm1⟩
 have hol := ofI_len l p i
 let a'2 : AV := (.own 2000 (((ofI l p i).map D.Answer.cells).length))
 let a'3 : AO := (.arr 6 ((ofI l p i).map D.Answer.cells))
 refine AWp.s_reg hGn hGk (aa 1) (Man.aa _ _) [(1, (vI p)), (5, a'2), (8, a'1), (9, (vI ((l.length : Nat) : Int))), (10, (vI ((i : Nat) : Int))), (11, (vB (decide (((i : Nat) : Int) < ((l.length : Nat) : Int)))))] [(2000, a'3)] (by kernel_rfl) (by kernel_rfl) ?_
 refine AWp.seq ?_
 refine AWp.cond (decide (((i : Nat) : Int) < ((l.length : Nat) : Int))) rfl (fun hc2 => ?_) (fun hc2 => ?_)
 ·skip
  replace hc2 := of_decide_eq_true hc2
  refine AWp.skip ?_
  refine nextQ_normal ?_
  refine AWp.seq ?_
  refine AWp.block ?_
  refine AWp.s_reg hGn hGk [.m (some 12) ⟨[(8, a'1), (10, (vI ((i : Nat) : Int)))], [], (.eptr [(pI ((nth l i).ID)), (pI ((nth l i).Page)), (pI ((nth l i).Person)), (pI ((nth l i).Kind)), (pI ((nth l i).Arg)), (pI ((nth l i).At))]), [], []⟩, .a, .a, .a] ⟨StepOK.p rfl rfl rfl (OpOK.indexP (e := 39) rfl (by kernel_rfl) (by kernel_rfl) rfl rfl rfl (map_nth (by omega))), trivial⟩ [(1, (vI p)), (5, a'2), (7, (.ref 1007 0)), (8, a'1), (9, (vI ((l.length : Nat) : Int))), (10, (vI ((i : Nat) : Int)))] [(2000, a'3), (1007, (.box [(vI ((nth l i).ID)), (vI ((nth l i).Page)), (vI ((nth l i).Person)), (vI ((nth l i).Kind)), (vI ((nth l i).Arg)), (vI ((nth l i).At))]))] (by kernel_rfl) (by kernel_rfl) ?_
  refine AWp.s_reg hGn hGk (aa 4) (Man.aa _ _) [(1, (vI p)), (5, a'2), (7, (.ref 1007 0)), (8, a'1), (9, (vI ((l.length : Nat) : Int))), (10, (vI ((i : Nat) : Int))), (17, (vB (decide (((nth l i).Page) = p))))] [(2000, a'3), (1007, (.box [(vI ((nth l i).ID)), (vI ((nth l i).Page)), (vI ((nth l i).Person)), (vI ((nth l i).Kind)), (vI ((nth l i).Arg)), (vI ((nth l i).At))]))] (by kernel_rfl) (by kernel_rfl) ?_
  refine AWp.cond (decide (((nth l i).Page) = p)) rfl (fun hc3 => ?_) (fun hc3 => ?_)
  ·skip
   replace hc3 := of_decide_eq_true hc3
   let a'4 : AV := (.own 2000 ((((ofI l p i) ++ [(nth l i)]).map D.Answer.cells).length))
   let a'5 : AO := (.arr 6 (((ofI l p i) ++ [(nth l i)]).map D.Answer.cells))
   refine AWp.reg' hGn hGk [.a, .a, .a, .m (some 21) ⟨[(18, a'2), (20, (.p (.sl true 6 [[(pI ((nth l i).ID)), (pI ((nth l i).Page)), (pI ((nth l i).Person)), (pI ((nth l i).Kind)), (pI ((nth l i).Arg)), (pI ((nth l i).At))]])))], [(2000, a'3)], a'4, [(2000, a'5)], []⟩, .a] ⟨StepOK.p rfl rfl rfl (OpOK.appendOwn (e := 39) (bytes := 48) rfl rfl (by kernel_rfl) (by kernel_rfl) rfl (Nat.beq_refl _) rfl (by rw [List.map_append]; rfl) rfl (by simp only [List.length_map, List.length_cons, List.length_nil]; omega) (by simp only [List.length_map, List.length_cons, List.length_nil]; omega)), trivial⟩ [(1, (vI p)), (5, a'4), (8, a'1), (9, (vI ((l.length : Nat) : Int))), (10, (vI ((i : Nat) : Int)))] [(2000, a'5)] (by kernel_rfl) (by kernel_rfl) ?_
   refine blockQ_normal ?_
   refine nextQ_normal ?_
   refine AWp.reg' hGn hGk [.m (some 22) ⟨[(10, (vI ((i : Nat) : Int)))], [], (vI ((i + 1 : Nat) : Int)), [], []⟩, .a] ⟨StepOK.p rfl rfl rfl (OpOK.add rfl rfl rfl (by rw [IntWalk.i64_in _ ⟨by omega, by omega⟩]; omega)), trivial⟩ [(1, (vI p)), (5, a'4), (8, a'1), (9, (vI ((l.length : Nat) : Int))), (10, (vI ((i + 1 : Nat) : Int)))] [(2000, a'5)] (by kernel_rfl) (by kernel_rfl) ?_
   refine nextQ_normal ⟨_, ?_, (i + 1), (by rw [ofI_yes (by omega) (by assumption)] <;> rfl), (by omega), rfl⟩
   · omega
  ·skip
   replace hc3 := of_decide_eq_false hc3
   refine AWp.skip ?_
   refine blockQ_normal ?_
   refine nextQ_normal ?_
   refine AWp.reg' hGn hGk [.m (some 22) ⟨[(10, (vI ((i : Nat) : Int)))], [], (vI ((i + 1 : Nat) : Int)), [], []⟩, .a] ⟨StepOK.p rfl rfl rfl (OpOK.add rfl rfl rfl (by rw [IntWalk.i64_in _ ⟨by omega, by omega⟩]; omega)), trivial⟩ [(1, (vI p)), (5, a'2), (8, a'1), (9, (vI ((l.length : Nat) : Int))), (10, (vI ((i + 1 : Nat) : Int)))] [(2000, a'3)] (by kernel_rfl) (by kernel_rfl) ?_
   refine nextQ_normal ⟨_, ?_, (i + 1), (by rw [ofI_no (by omega) (by assumption)] <;> rfl), (by omega), rfl⟩
   · omega
 ·skip
  replace hc2 := of_decide_eq_false hc2
  refine AWp.weaken (mk [(5, a'2)] [(2000, a'3)]) (Weak.sub' hGk (by kernel_rfl)) ?_
  refine AWp.exit ?_
  refine nextQ_exit ?_
  refine nextQ_exit ?_
  refine blockQ_exit ?_
  refine nextQ_normal ?_
  refine AWp.s_reg hGn hGk (aa 2) (Man.aa _ _) [(4, a'2)] [(2000, a'3)] (by kernel_rfl) (by kernel_rfl) ?_
  refine AWp.weaken (mk [(4, (.p (.sl false 6 ((ofI l p i).map D.Answer.cells))))] []) (Weak.freeze (n := 2000) (es := 6) (rows := ((ofI l p i).map D.Answer.cells)) (by rw [hGk]; decide) ⟨rfl, .own, trivial⟩ trivial) ?_
  refine AWp.ret ?_
  refine fin_of (.inr rfl) (v := (.p (.sl false 6 ((ofI l p i).map D.Answer.cells)))) (Res.tmp rfl rfl) (h' := []) rfl rfl ?_
  exact ⟨by rw [ofI_all l p (i := i) (by omega)], rfl⟩

theorem r28_Of (l : List D.Answer) (p : Int) (hl : l.length ≤ 1000000) :
    SpecIs Tryz.prog 29 [(.p (.sl false 6 (l.map D.Answer.cells))), (vI p)] [] (.p (.sl false 6 ((ofA l p).map D.Answer.cells))) [] := by
 refine Spec.intro Tryz.func29 rfl (by kernel_rfl) ?_
 intro Γ hGn hGk
 replace hGn : Γ.n = 28 := hGn
 replace hGk : Γ.names = [] := hGk
 let a'1 : AV := (.p (.sl false 6 (l.map D.Answer.cells)))
 refine AWp.weaken (mk [(0, a'1), (1, (vI p))] []) (Weak.sub' hGk (by kernel_rfl)) ?_
 refine AWp.s_reg hGn hGk (aa 1) (Man.aa _ _) [(0, a'1), (1, (vI p))] [] (by kernel_rfl) (by kernel_rfl) ?_
 refine AWp.s_reg hGn hGk (aa 1) (Man.aa _ _) [(0, a'1), (1, (vI p)), (5, (.p (.sl true 0 [])))] [] (by kernel_rfl) (by kernel_rfl) ?_
 refine AWp.seq ?_
 refine AWp.s_reg hGn hGk (aa 1) (Man.aa _ _) [(0, a'1), (1, (vI p)), (5, (.p (.sl true 0 []))), (6, (vI 0))] [] (by kernel_rfl) (by kernel_rfl) ?_
 refine AWp.block ?_
 refine AWp.weaken (mk [(0, a'1), (1, (vI p)), (5, (.own 2000 0)), (6, (vI 0))] [(2000, (.arr 6 []))]) (Weak.thaw (t := 5) (es0 := 0) (by kernel_rfl) rfl (by kernel_rfl) (by kernel_rfl) (by kernel_rfl)) ?_
 refine AWp.loop (fun m s => ∃ i, s = (mk [(0, (.p (.sl false 6 (l.map D.Answer.cells)))), (1, (vI p)), (5, (.own 2000 (((ofI l p i).map D.Answer.cells).length))), (6, (vI ((i : Nat) : Int)))] [(2000, (.arr 6 ((ofI l p i).map D.Answer.cells)))]) ∧ (i ≤ l.length) ∧ m = (l.length - i))
  ⟨_, 0, rfl, (by omega), rfl⟩ ?_
 rintro mm1 s ⟨i, rfl, hi, hmm1⟩
 have hol := ofI_len l p i
 refine AWp.seq ?_
 let a'2 : AV := (.own 2000 (((ofI l p i).map D.Answer.cells).length))
 let a'3 : AO := (.arr 6 ((ofI l p i).map D.Answer.cells))
 refine AWp.s_reg hGn hGk [.a, .a, .m (some 9) ⟨[(8, a'1)], [], (vI ((l.length : Nat) : Int)), [], []⟩, .a] ⟨StepOK.p rfl rfl rfl (OpOK.lenP (e := 39) rfl rfl (by kernel_rfl) rfl (by rw [List.length_map])), trivial⟩ [(0, a'1), (1, (vI p)), (5, a'2), (6, (vI ((i : Nat) : Int))), (10, (vB (decide (((i : Nat) : Int) < ((l.length : Nat) : Int)))))] [(2000, a'3)] (by kernel_rfl) (by kernel_rfl) ?_
 refine AWp.cond (decide (((i : Nat) : Int) < ((l.length : Nat) : Int))) rfl (fun hc2 => ?_) (fun hc2 => ?_)
 ·skip
  replace hc2 := of_decide_eq_true hc2
  refine AWp.skip ?_
  refine nextQ_normal ?_
  refine AWp.seq ?_
  refine AWp.block ?_
  refine AWp.s_reg hGn hGk [.a, .a, .m (some 15) ⟨[(13, a'1), (14, (vI ((i : Nat) : Int)))], [], (.eptr [(pI ((nth l i).ID)), (pI ((nth l i).Page)), (pI ((nth l i).Person)), (pI ((nth l i).Kind)), (pI ((nth l i).Arg)), (pI ((nth l i).At))]), [], []⟩, .a, .a, .a, .a] ⟨StepOK.p rfl rfl rfl (OpOK.indexP (e := 39) rfl (by kernel_rfl) (by kernel_rfl) rfl rfl rfl (map_nth (by omega))), trivial⟩ [(0, a'1), (1, (vI p)), (5, a'2), (6, (vI ((i : Nat) : Int))), (19, (vB (decide (((nth l i).Page) = p))))] [(2000, a'3)] (by kernel_rfl) (by kernel_rfl) ?_
  refine AWp.cond (decide (((nth l i).Page) = p)) rfl (fun hc3 => ?_) (fun hc3 => ?_)
  ·skip
   replace hc3 := of_decide_eq_true hc3
   let a'4 : AV := (.own 2000 ((((ofI l p i) ++ [(nth l i)]).map D.Answer.cells).length))
   let a'5 : AO := (.arr 6 (((ofI l p i) ++ [(nth l i)]).map D.Answer.cells))
   refine AWp.reg' hGn hGk [.a, .a, .a, .m (some 23) ⟨[(21, a'1), (22, (vI ((i : Nat) : Int)))], [], (.eptr [(pI ((nth l i).ID)), (pI ((nth l i).Page)), (pI ((nth l i).Person)), (pI ((nth l i).Kind)), (pI ((nth l i).Arg)), (pI ((nth l i).At))]), [], []⟩, .a, .a, .m (some 26) ⟨[(20, a'2), (25, (.p (.sl true 6 [[(pI ((nth l i).ID)), (pI ((nth l i).Page)), (pI ((nth l i).Person)), (pI ((nth l i).Kind)), (pI ((nth l i).Arg)), (pI ((nth l i).At))]])))], [(2000, a'3)], a'4, [(2000, a'5)], []⟩, .a] ⟨StepOK.p rfl rfl rfl (OpOK.indexP (e := 39) rfl (by kernel_rfl) (by kernel_rfl) rfl rfl rfl (map_nth (by omega))),
    StepOK.p rfl rfl rfl (OpOK.appendOwn (e := 39) (bytes := 48) rfl rfl (by kernel_rfl) (by kernel_rfl) rfl (Nat.beq_refl _) rfl (by rw [List.map_append]; rfl) rfl (by simp only [List.length_map, List.length_cons, List.length_nil]; omega) (by simp only [List.length_map, List.length_cons, List.length_nil]; omega)), trivial⟩ [(0, a'1), (1, (vI p)), (5, a'4), (6, (vI ((i : Nat) : Int)))] [(2000, a'5)] (by kernel_rfl) (by kernel_rfl) ?_
   refine blockQ_normal ?_
   refine nextQ_normal ?_
   refine AWp.reg' hGn hGk [.a, .m (some 12) ⟨[(11, (vI ((i : Nat) : Int)))], [], (vI ((i + 1 : Nat) : Int)), [], []⟩, .a] ⟨StepOK.p rfl rfl rfl (OpOK.add rfl rfl rfl (by rw [IntWalk.i64_in _ ⟨by omega, by omega⟩]; omega)), trivial⟩ [(0, a'1), (1, (vI p)), (5, a'4), (6, (vI ((i + 1 : Nat) : Int)))] [(2000, a'5)] (by kernel_rfl) (by kernel_rfl) ?_
   refine nextQ_normal ⟨_, ?_, (i + 1), (by rw [ofI_yes (by omega) (by assumption)] <;> rfl), (by omega), rfl⟩
   · omega
  ·skip
   replace hc3 := of_decide_eq_false hc3
   refine AWp.skip ?_
   refine blockQ_normal ?_
   refine nextQ_normal ?_
   refine AWp.reg' hGn hGk [.a, .m (some 12) ⟨[(11, (vI ((i : Nat) : Int)))], [], (vI ((i + 1 : Nat) : Int)), [], []⟩, .a] ⟨StepOK.p rfl rfl rfl (OpOK.add rfl rfl rfl (by rw [IntWalk.i64_in _ ⟨by omega, by omega⟩]; omega)), trivial⟩ [(0, a'1), (1, (vI p)), (5, a'2), (6, (vI ((i + 1 : Nat) : Int)))] [(2000, a'3)] (by kernel_rfl) (by kernel_rfl) ?_
   refine nextQ_normal ⟨_, ?_, (i + 1), (by rw [ofI_no (by omega) (by assumption)] <;> rfl), (by omega), rfl⟩
   · omega
 ·skip
  replace hc2 := of_decide_eq_false hc2
  refine AWp.weaken (mk [(5, a'2)] [(2000, a'3)]) (Weak.sub' hGk (by kernel_rfl)) ?_
  refine AWp.exit ?_
  refine nextQ_exit ?_
  refine nextQ_exit ?_
  refine blockQ_exit ?_
  refine nextQ_normal ?_
  refine AWp.s_reg hGn hGk (aa 2) (Man.aa _ _) [(4, a'2)] [(2000, a'3)] (by kernel_rfl) (by kernel_rfl) ?_
  refine AWp.weaken (mk [(4, (.p (.sl false 6 ((ofI l p i).map D.Answer.cells))))] []) (Weak.freeze (n := 2000) (es := 6) (rows := ((ofI l p i).map D.Answer.cells)) (by rw [hGk]; decide) ⟨rfl, .own, trivial⟩ trivial) ?_
  refine AWp.ret ?_
  refine fin_of (.inr rfl) (v := (.p (.sl false 6 ((ofI l p i).map D.Answer.cells)))) (Res.tmp rfl rfl) (h' := []) rfl rfl ?_
  exact ⟨by rw [ofI_all l p (i := i) (by omega)], rfl⟩

theorem r28_Same (l m2 : List D.Answer) (hl : l.length ≤ 1000000) :
    SpecIs Tryz.prog 27 [(.p (.sl false 6 (l.map D.Answer.cells))), (.p (.sl false 6 (m2.map D.Answer.cells)))] [] (vB (sameL l m2)) [] := by
 refine Spec.intro Tryz.func27 rfl (by kernel_rfl) ?_
 intro Γ hGn hGk
 replace hGn : Γ.n = 26 := hGn
 replace hGk : Γ.names = [] := hGk
 let a'1 : AV := (.p (.sl false 6 (l.map D.Answer.cells)))
 let a'2 : AV := (.p (.sl false 6 (m2.map D.Answer.cells)))
 refine AWp.weaken (mk [(0, a'1), (1, a'2)] []) (Weak.sub' hGk (by kernel_rfl)) ?_
 refine AWp.s_reg hGn hGk (aa 1) (Man.aa _ _) [(0, a'1), (1, a'2)] [] (by kernel_rfl) (by kernel_rfl) ?_
 refine AWp.seq ?_
 refine AWp.s_reg hGn hGk [.a, .m (some 7) ⟨[(6, a'1)], [], (vI ((l.length : Nat) : Int)), [], []⟩, .a, .m (some 9) ⟨[(8, a'2)], [], (vI ((m2.length : Nat) : Int)), [], []⟩, .a] ⟨StepOK.p rfl rfl rfl (OpOK.lenP (e := 39) rfl rfl (by kernel_rfl) rfl (by rw [List.length_map])),
  StepOK.p rfl rfl rfl (OpOK.lenP (e := 39) rfl rfl (by kernel_rfl) rfl (by rw [List.length_map])), trivial⟩ [(0, a'1), (1, a'2), (10, (vB (decide (((l.length : Nat) : Int) ≠ ((m2.length : Nat) : Int)))))] [] (by kernel_rfl) (by kernel_rfl) ?_
 refine AWp.cond (decide (((l.length : Nat) : Int) ≠ ((m2.length : Nat) : Int))) rfl (fun hc1 => ?_) (fun hc1 => ?_)
 ·skip
  replace hc1 := of_decide_eq_true hc1
  refine AWp.s_reg hGn hGk (aa 1) (Man.aa _ _) [(4, (vB false))] [] (by kernel_rfl) (by kernel_rfl) ?_
  refine AWp.ret ?_
  refine nextQ_ret ?_
  refine fin_of (.inr rfl) (v := (vB false)) (Res.tmp rfl rfl) (h' := []) rfl rfl ?_
  exact ⟨by rw [sameL_no (l := l) (m := m2) (by first | (left; omega) | (right; exact ⟨i, by omega, by assumption⟩))], rfl⟩
 ·skip
  replace hc1 := of_decide_eq_false hc1
  refine AWp.skip ?_
  refine nextQ_normal ?_
  refine AWp.seq ?_
  refine AWp.s_reg hGn hGk (aa 1) (Man.aa _ _) [(0, a'1), (1, a'2), (5, (vI 0))] [] (by kernel_rfl) (by kernel_rfl) ?_
  refine AWp.block ?_
  refine AWp.loop (fun m s => ∃ i, s = (mk [(0, (.p (.sl false 6 (l.map D.Answer.cells)))), (1, (.p (.sl false 6 (m2.map D.Answer.cells)))), (5, (vI ((i : Nat) : Int)))] []) ∧ (i ≤ l.length) ∧ (∀ j, j < i → intsA (nth l j) = intsA (nth m2 j)) ∧ m = (l.length - i))
   ⟨_, 0, rfl, (by omega), (by intro j hj; omega), rfl⟩ ?_
  rintro mm2 s ⟨i, rfl, hi, hw, hmm2⟩
  refine AWp.seq ?_
  refine AWp.s_reg hGn hGk [.a, .a, .m (some 13) ⟨[(12, a'1)], [], (vI ((l.length : Nat) : Int)), [], []⟩, .a] ⟨StepOK.p rfl rfl rfl (OpOK.lenP (e := 39) rfl rfl (by kernel_rfl) rfl (by rw [List.length_map])), trivial⟩ [(0, a'1), (1, a'2), (5, (vI ((i : Nat) : Int))), (14, (vB (decide (((i : Nat) : Int) < ((l.length : Nat) : Int)))))] [] (by kernel_rfl) (by kernel_rfl) ?_
  refine AWp.cond (decide (((i : Nat) : Int) < ((l.length : Nat) : Int))) rfl (fun hc3 => ?_) (fun hc3 => ?_)
  ·skip
   replace hc3 := of_decide_eq_true hc3
   refine AWp.skip ?_
   refine nextQ_normal ?_
   refine AWp.seq ?_
   refine AWp.block ?_
   refine AWp.s_dreg hGn hGk (by kernel_rfl) [.a, .a, .m (some 19) ⟨[(17, a'1), (18, (vI ((i : Nat) : Int)))], [], (.eptr [(pI ((nth l i).ID)), (pI ((nth l i).Page)), (pI ((nth l i).Person)), (pI ((nth l i).Kind)), (pI ((nth l i).Arg)), (pI ((nth l i).At))]), [], []⟩, .a, .a, .a, .m (some 23) ⟨[(21, a'2), (22, (vI ((i : Nat) : Int)))], [], (.eptr [(pI ((nth m2 i).ID)), (pI ((nth m2 i).Page)), (pI ((nth m2 i).Person)), (pI ((nth m2 i).Kind)), (pI ((nth m2 i).Arg)), (pI ((nth m2 i).At))]), [], []⟩, .a, .m (some 25) ⟨[(20, (.agg [(vI ((nth l i).ID)), (vI ((nth l i).Page)), (vI ((nth l i).Person)), (vI ((nth l i).Kind)), (vI ((nth l i).Arg)), (vI ((nth l i).At))])), (24, (.agg [(vI ((nth m2 i).ID)), (vI ((nth m2 i).Page)), (vI ((nth m2 i).Person)), (vI ((nth m2 i).Kind)), (vI ((nth m2 i).Arg)), (vI ((nth m2 i).At))]))], [], (vB (decide (([(nth l i).ID, (nth l i).Page, (nth l i).Person, (nth l i).Kind, (nth l i).Arg, (nth l i).At] : List Int) ≠ ([(nth m2 i).ID, (nth m2 i).Page, (nth m2 i).Person, (nth m2 i).Kind, (nth m2 i).Arg, (nth m2 i).At] : List Int)))), [], []⟩] ⟨StepOK.p rfl rfl rfl (OpOK.indexP (e := 39) rfl (by kernel_rfl) (by kernel_rfl) rfl rfl rfl (map_nth (by omega))),
    StepOK.p rfl rfl rfl (OpOK.indexP (e := 39) rfl (by kernel_rfl) (by kernel_rfl) rfl rfl rfl (map_nth (by omega))),
    StepOK.p rfl rfl rfl (OpOK.neqInts (as1 := ([(nth l i).ID, (nth l i).Page, (nth l i).Person, (nth l i).Kind, (nth l i).Arg, (nth l i).At] : List Int)) (bs := ([(nth m2 i).ID, (nth m2 i).Page, (nth m2 i).Person, (nth m2 i).Kind, (nth m2 i).Arg, (nth m2 i).At] : List Int)) rfl (by kernel_rfl) rfl rfl rfl rfl), trivial⟩ [(0, a'1), (1, a'2), (5, (vI ((i : Nat) : Int))), (25, (vB (decide (([(nth l i).ID, (nth l i).Page, (nth l i).Person, (nth l i).Kind, (nth l i).Arg, (nth l i).At] : List Int) ≠ ([(nth m2 i).ID, (nth m2 i).Page, (nth m2 i).Person, (nth m2 i).Kind, (nth m2 i).Arg, (nth m2 i).At] : List Int)))))] [] (by kernel_rfl) (by kernel_rfl) (by kernel_rfl) ?_
   refine AWp.cond (decide (([(nth l i).ID, (nth l i).Page, (nth l i).Person, (nth l i).Kind, (nth l i).Arg, (nth l i).At] : List Int) ≠ ([(nth m2 i).ID, (nth m2 i).Page, (nth m2 i).Person, (nth m2 i).Kind, (nth m2 i).Arg, (nth m2 i).At] : List Int))) rfl (fun hc4 => ?_) (fun hc4 => ?_)
   ·skip
    replace hc4 := of_decide_eq_true hc4
    refine AWp.s_reg hGn hGk (aa 1) (Man.aa _ _) [(4, (vB false))] [] (by kernel_rfl) (by kernel_rfl) ?_
    refine AWp.ret ?_
    refine blockQ_ret ?_
    refine nextQ_ret ?_
    refine nextQ_ret ?_
    refine blockQ_ret ?_
    refine nextQ_ret ?_
    refine fin_of (.inr rfl) (v := (vB false)) (Res.tmp rfl rfl) (h' := []) rfl rfl ?_
    exact ⟨by rw [sameL_no (l := l) (m := m2) (by first | (left; omega) | (right; exact ⟨i, by omega, by assumption⟩))], rfl⟩
   ·skip
    replace hc4 := of_decide_eq_false hc4
    refine AWp.skip ?_
    refine blockQ_normal ?_
    refine nextQ_normal ?_
    refine AWp.reg' hGn hGk [.a, .m (some 16) ⟨[(15, (vI ((i : Nat) : Int)))], [], (vI ((i + 1 : Nat) : Int)), [], []⟩, .a] ⟨StepOK.p rfl rfl rfl (OpOK.add rfl rfl rfl (by rw [IntWalk.i64_in _ ⟨by omega, by omega⟩]; omega)), trivial⟩ [(0, a'1), (1, a'2), (5, (vI ((i + 1 : Nat) : Int)))] [] (by kernel_rfl) (by kernel_rfl) ?_
    refine nextQ_normal ⟨_, ?_, (i + 1), rfl, (by omega), (fun j hj => by rcases Nat.lt_or_ge j i with h | h; exact hw j h; rw [show j = i from by omega]; exact Classical.not_not.1 (by assumption)), rfl⟩
    · omega
  ·skip
   replace hc3 := of_decide_eq_false hc3
   refine AWp.weaken (mk [] []) (Weak.sub' hGk (by kernel_rfl)) ?_
   refine AWp.exit ?_
   refine nextQ_exit ?_
   refine nextQ_exit ?_
   refine blockQ_exit ?_
   refine nextQ_normal ?_
   refine AWp.s_reg hGn hGk (aa 1) (Man.aa _ _) [(4, (vB true))] [] (by kernel_rfl) (by kernel_rfl) ?_
   refine AWp.ret ?_
   refine fin_of (.inr rfl) (v := (vB true)) (Res.tmp rfl rfl) (h' := []) rfl rfl ?_
   exact ⟨by rw [sameL_yes (l := l) (m := m2) (by omega) (fun j hj => hw j (by omega))], rfl⟩

theorem r28_SameR (l : List D.Answer) (hl : l.length ≤ 1000000) : SpecIs Tryz.prog 27 [(.p (.sl false 6 (l.map D.Answer.cells))), (.p (.sl false 6 (l.map D.Answer.cells)))] [] (vB true) [] := by
  have h := r28_Same l l hl
  rw [sameL_refl] at h; exact h
end Go.Proofs.YtimfbibaoppfcaaGreatDoor
