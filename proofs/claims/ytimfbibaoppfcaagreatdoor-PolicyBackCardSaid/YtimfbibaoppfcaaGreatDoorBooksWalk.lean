/-
  The walk of PolicyBack. Printed by wip/gen/pol.py.
-/
import Derived.Test.YtimfbibaoppfcaaGreatDoorParseWalk
import Derived.Test.YtimfbibaoppfcaaGreatDoorCrewWalk
set_option maxRecDepth 100000
set_option linter.unusedSimpArgs false
set_option linter.unusedVariables false
namespace Go.Proofs.YtimfbibaoppfcaaGreatDoor
open Go AM
theorem law_PolicyBack (L : List Int) :
    SpecIs Tryz.prog 8 [(.p (.sl false 1 (L.map D.cInt)))] [] (vB true) [] := by
 refine Spec.intro Tryz.func8 rfl (by kernel_rfl) ?_
 intro Γ hGn hGk
 replace hGn : Γ.n = 69 := hGn
 replace hGk : Γ.names = [] := hGk
 refine AWp.weaken (mk [(0, (.p (.sl false 1 (L.map D.cInt))))] []) (Weak.sub' hGk (by kernel_rfl)) ?_
 refine AWp.s_reg hGn hGk (aa 1) (Man.aa _ _) [(0, (.p (.sl false 1 (L.map D.cInt))))] [] (by kernel_rfl) (by kernel_rfl) ?_
 refine AWp.seq ?_
 refine AWp.s_reg hGn hGk [.a, .m (some 14) ⟨[(13, (.p (.sl false 1 (L.map D.cInt))))], [], (vB (decide (((L.length : Nat) : Int) ≤ (500 : Int)))), [], []⟩, .a] ⟨StepOK.p rfl rfl rfl (OpOK.call rfl (by kernel_rfl) rfl (made_Light L) (by kernel_rfl)), trivial⟩ [(0, (.p (.sl false 1 (L.map D.cInt)))), (15, (vB (!(decide (((L.length : Nat) : Int) ≤ (500 : Int))))))] [] (by kernel_rfl) (by kernel_rfl) ?_
 refine AWp.cond (!(decide (((L.length : Nat) : Int) ≤ (500 : Int)))) rfl (fun hc1 => ?_) (fun hc1 => ?_)
 ·skip
  replace hc1 : decide (((L.length : Nat) : Int) ≤ (500 : Int)) = false := by simpa using hc1
  replace hc1 := of_decide_eq_false hc1
  refine AWp.s_reg hGn hGk [.m (some 16) ⟨[], [], (vB true), [], []⟩, .a] ⟨StepOK.p rfl rfl rfl (OpOK.call rfl (by kernel_rfl) rfl law_sane (by kernel_rfl)), trivial⟩ [(2, (vB true))] [] (by kernel_rfl) (by kernel_rfl) ?_
  refine AWp.ret ?_
  refine nextQ_ret ?_
  refine fin_of (.inr rfl) (v := (vB true)) (Res.tmp rfl rfl) (h' := []) rfl rfl ?_
  exact ⟨rfl, rfl⟩
 ·skip
  replace hc1 : decide (((L.length : Nat) : Int) ≤ (500 : Int)) = true := by simpa using hc1
  replace hc1 := of_decide_eq_true hc1
  refine AWp.skip ?_
  refine nextQ_normal ?_
  have hL : L.length ≤ 500 := by omega
  have hi0 : crewI L 0 ≤ L.length := crewI_le (Nat.zero_le _)
  let a'1 : AO := (.box [(.p (.sl false 1 (L.map D.cInt))), (vI ((0 : Nat) : Int))])
  refine AWp.s_reg hGn hGk [.a, .m (some 18) ⟨[(17, (.p (.sl false 1 (L.map D.cInt))))], [], (.ref 1 0), [(1, a'1)], [1]⟩, .a] ⟨StepOK.p rfl rfl rfl (OpOK.call rfl (by kernel_rfl) rfl (made_Roll L) (by kernel_rfl)), trivial⟩ [(3, (.ref 1 0))] [(1, a'1)] (by kernel_rfl) (by kernel_rfl) ?_
  let a'2 : AV := (.p (.sl false 3 (((crew L 0).Zones).map D.Zone.cells)))
  let a'3 : AV := (.p (.sl false 6 (((crew L 0).People).map D.Person.cells)))
  let a'4 : AV := (.p (.sl false 3 (((crew L 0).Calendars).map D.Calendar.cells)))
  let a'5 : AV := (.p (.sl false 3 (((crew L 0).Schedules).map D.Schedule.cells)))
  let a'6 : AV := (.agg [a'2, a'3, a'4, a'5])
  let a'7 : AV := (.p (.sl false 2 (((book L (crewI L 0)).Teams).map D.Team.cells)))
  let a'8 : AV := (.p (.sl false 3 (((book L (crewI L 0)).Policies).map D.Policy.cells)))
  let a'9 : AV := (.agg [a'7, a'8])
  let a'10 : AO := (.box [a'2, a'3, a'4, a'5])
  let a'11 : AO := (.box [a'7, a'8])
  refine AWp.s_reg hGn hGk [.a, .m (some 20) ⟨[(19, (.ref 1 0))], [(1, a'1)], a'6, [(1, (.box [(.p (.sl false 1 (L.map D.cInt))), (vI ((crewI L 0 : Nat) : Int))]))], []⟩, .a, .m (some 22) ⟨[(21, (.ref 1 0))], [(1, (.box [(.p (.sl false 1 (L.map D.cInt))), (vI ((crewI L 0 : Nat) : Int))]))], a'9, [(1, (.box [(.p (.sl false 1 (L.map D.cInt))), (vI ((bookI L (crewI L 0) : Nat) : Int))]))], []⟩, .a, .a, .a, .a] ⟨StepOK.p rfl rfl rfl (OpOK.call rfl (by kernel_rfl) rfl (made_Crew L 0 hL (by repeat (first | assumption | exact Nat.zero_le _ | apply nextI_le | apply personI_le | apply schI_le | apply ovE_le | apply layQ_le | apply oneI_le | apply targetI_le | apply teamI_le | apply stepI_le | apply policyI_le))) (by kernel_rfl)),
   StepOK.p rfl rfl rfl (OpOK.call rfl (by kernel_rfl) rfl (made_Book L (crewI L 0) hL (by repeat (first | assumption | exact Nat.zero_le _ | apply nextI_le | apply oneI_le | apply targetI_le | apply teamI_le | apply stepI_le | apply policyI_le))) (by kernel_rfl)), trivial⟩ [(4, (.ref 1004 0)), (5, (.ref 1005 0))] [(1004, a'10), (1005, a'11)] (by kernel_rfl) (by kernel_rfl) ?_
  refine AWp.s_reg hGn hGk [.a, .a, .m (some 26) ⟨[(24, a'6), (25, a'9)], [], (.tup [(vS (bookX (crew L 0) (book L (crewI L 0)))), (vI 0)]), [], []⟩, .a, .a, .a, .a, .a] ⟨StepOK.p rfl rfl rfl (OpOK.call rfl (by kernel_rfl) rfl (pol_Format (crew L 0) (book L (crewI L 0)) (crew_ok L 0) (BookV.of (book_valid L (crewI L 0))) (book_valid L (crewI L 0))) (by kernel_rfl)), trivial⟩ [(4, (.ref 1004 0)), (5, (.ref 1005 0)), (6, (vS (bookX (crew L 0) (book L (crewI L 0))))), (7, (vI 0))] [(1004, a'10), (1005, a'11)] (by kernel_rfl) (by kernel_rfl) ?_
  refine AWp.s_reg hGn hGk [.a, .a, .m (some 32) ⟨[(30, a'6), (31, (vS (bookX (crew L 0) (book L (crewI L 0)))))], [], (.tup [a'9, (vI 0), (vI 0)]), [], []⟩, .a, .a, .a, .a, .a, .a, .a, .a] ⟨StepOK.p rfl rfl rfl (OpOK.call rfl (by kernel_rfl) rfl (by rw [bookX_is]; exact pol_Parse (crew L 0) (book L (crewI L 0)) (crew_ok L 0) (BookV.of (book_valid L (crewI L 0))) (book_valid L (crewI L 0)) (book_pos L _)) (by kernel_rfl)), trivial⟩ [(4, (.ref 1004 0)), (5, (.ref 1005 0)), (6, (vS (bookX (crew L 0) (book L (crewI L 0))))), (7, (vI 0)), (8, (.ref 1008 0)), (9, (vI 0)), (10, (vI 0))] [(1004, a'10), (1005, a'11), (1008, a'11)] (by kernel_rfl) (by kernel_rfl) ?_
  refine AWp.s_reg hGn hGk [.a, .a, .m (some 39) ⟨[(37, a'6), (38, a'9)], [], (.tup [(vS (bookX (crew L 0) (book L (crewI L 0)))), (vI 0)]), [], []⟩, .a, .a, .a, .a, .a] ⟨StepOK.p rfl rfl rfl (OpOK.call rfl (by kernel_rfl) rfl (pol_Format (crew L 0) (book L (crewI L 0)) (crew_ok L 0) (BookV.of (book_valid L (crewI L 0))) (book_valid L (crewI L 0))) (by kernel_rfl)), trivial⟩ [(5, (.ref 1005 0)), (6, (vS (bookX (crew L 0) (book L (crewI L 0))))), (7, (vI 0)), (8, (.ref 1008 0)), (9, (vI 0)), (10, (vI 0)), (11, (vS (bookX (crew L 0) (book L (crewI L 0))))), (12, (vI 0))] [(1005, a'11), (1008, a'11)] (by kernel_rfl) (by kernel_rfl) ?_
  refine AWp.s_reg hGn hGk [.a, .a, .a, .a, .a, .a, .a, .a, .a, .a, .a, .a, .a, .m (some 55) ⟨[(53, a'9), (54, a'9), (52, (vB true))], [], (vB true), [], []⟩, .a, .a, .a, .a, .a, .a, .a, .a, .m (some 64) ⟨[(62, (vS (bookX (crew L 0) (book L (crewI L 0))))), (63, (vS (bookX (crew L 0) (book L (crewI L 0))))), (61, (vB true))], [], (vB true), [], []⟩, .a, .a, .m (some 67) ⟨[(66, (vB true))], [], (vB true), [], []⟩, .a, .a] ⟨StepOK.g rfl rfl rfl rfl rfl (by simp) (OpOK.call rfl (by kernel_rfl) rfl (ref_SameBook (book L (crewI L 0)) (BookV.of (book_valid L (crewI L 0)))) (by kernel_rfl)),
   StepOK.g rfl rfl rfl rfl rfl (by simp) (OpOK.eqlS rfl rfl rfl (decide_eq_true rfl)),
   StepOK.g rfl rfl rfl rfl rfl (by simp) (OpOK.call rfl (by kernel_rfl) rfl law_sane (by kernel_rfl)), trivial⟩ [(2, (vB true))] [] (by kernel_rfl) (by kernel_rfl) ?_
  refine AWp.ret ?_
  refine fin_of (.inr rfl) (v := (vB true)) (Res.tmp rfl rfl) (h' := []) rfl rfl ?_
  exact ⟨rfl, rfl⟩
end Go.Proofs.YtimfbibaoppfcaaGreatDoor
