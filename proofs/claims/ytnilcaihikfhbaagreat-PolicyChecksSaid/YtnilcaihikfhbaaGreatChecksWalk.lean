/-
  The walk of PolicyChecks. Printed by wip/gen/pol.py.
-/
import Derived.Test.YtnilcaihikfhbaaGreatCfg0
import Derived.Test.YtnilcaihikfhbaaGreatCrewWalk
import Derived.Test.YtnilcaihikfhbaaGreatOddWalk
set_option maxRecDepth 100000
set_option linter.unusedSimpArgs false
set_option linter.unusedVariables false
namespace Go.Proofs.YtnilcaihikfhbaaGreat
open Go AM
theorem law_PolicyChecks (L : List Int) (q : D.Book) (hq : ∀ t ∈ q.Teams, t.Members.length ≤ 9223372036854775807) :
    SpecIs Tryz.prog 3 [(.p (.sl false 1 (L.map D.cInt))), (.agg [(.p (.sl false 2 (q.Teams.map D.Team.cells))), (.p (.sl false 3 (q.Policies.map D.Policy.cells)))])] [] (vB true) [] := by
 refine Spec.intro Tryz.func3 rfl (by kernel_rfl) ?_
 intro Γ hGn hGk
 replace hGn : Γ.n = 72 := hGn
 replace hGk : Γ.names = [] := hGk
 let a'1 : AV := (.p (.sl false 2 (q.Teams.map D.Team.cells)))
 let a'2 : AV := (.p (.sl false 3 (q.Policies.map D.Policy.cells)))
 refine AWp.weaken (mk [(0, (.p (.sl false 1 (L.map D.cInt)))), (1, (.agg [a'1, a'2]))] []) (Weak.sub' hGk (by kernel_rfl)) ?_
 let a'3 : AO := (.box [a'1, a'2])
 refine AWp.s_reg hGn hGk (aa 2) (Man.aa _ _) [(0, (.p (.sl false 1 (L.map D.cInt)))), (3, (.ref 1003 0))] [(1003, a'3)] (by kernel_rfl) (by kernel_rfl) ?_
 refine AWp.seq ?_
 by_cases hs1 : ((L.length : Nat) : Int) ≤ (500 : Int)
 ·skip
  by_cases hs2 : (20 : Int) < ((q.Teams.length : Nat) : Int)
  ·skip
   refine AWp.s_reg hGn hGk [.a, .m (some 12) ⟨[(11, (.p (.sl false 1 (L.map D.cInt))))], [], (vB true), [], []⟩, .a, .a, .a, .a, .m (some 17) ⟨[(16, a'1), (14, (vB false))], [], (vI ((q.Teams.length : Nat) : Int)), [], []⟩, .m (some 18) ⟨[(17, (vI ((q.Teams.length : Nat) : Int))), (14, (vB false))], [], (vB true), [], []⟩, .a, .a, .a, .a, .a, .a, .a] ⟨StepOK.p rfl rfl rfl (OpOK.call rfl (by kernel_rfl) rfl (by have hq := (made_Light L); rw [(decide_eq_true hs1)] at hq; exact hq) (by kernel_rfl)),
    StepOK.g rfl rfl rfl rfl rfl (by simp) (OpOK.lenP (e := 54) rfl rfl (by kernel_rfl) rfl (by rw [List.length_map])),
    StepOK.g rfl rfl rfl rfl rfl (by simp) (OpOK.gtr rfl rfl rfl (decide_eq_true hs2)), trivial⟩ [(0, (.p (.sl false 1 (L.map D.cInt)))), (3, (.ref 1003 0)), (25, (vB true))] [(1003, a'3)] (by kernel_rfl) (by kernel_rfl) ?_
   refine AWp.cond_true rfl ?_
   refine AWp.s_reg hGn hGk [.m (some 26) ⟨[], [], (vB true), [], []⟩, .a] ⟨StepOK.p rfl rfl rfl (OpOK.call rfl (by kernel_rfl) rfl law_sane (by kernel_rfl)), trivial⟩ [(4, (vB true))] [] (by kernel_rfl) (by kernel_rfl) ?_
   refine AWp.ret ?_
   refine nextQ_ret ?_
   refine fin_of (.inr rfl) (v := (vB true)) (Res.tmp rfl rfl) (h' := []) rfl rfl ?_
   exact ⟨rfl, rfl⟩
  ·skip
   refine AWp.s_reg hGn hGk [.a, .m (some 12) ⟨[(11, (.p (.sl false 1 (L.map D.cInt))))], [], (vB true), [], []⟩, .a, .a, .a, .a, .m (some 17) ⟨[(16, a'1), (14, (vB false))], [], (vI ((q.Teams.length : Nat) : Int)), [], []⟩, .m (some 18) ⟨[(17, (vI ((q.Teams.length : Nat) : Int))), (14, (vB false))], [], (vB false), [], []⟩, .a, .a, .a, .a, .m (some 23) ⟨[(22, a'2), (20, (vB false))], [], (vI ((q.Policies.length : Nat) : Int)), [], []⟩, .a, .a] ⟨StepOK.p rfl rfl rfl (OpOK.call rfl (by kernel_rfl) rfl (by have hq := (made_Light L); rw [(decide_eq_true hs1)] at hq; exact hq) (by kernel_rfl)),
    StepOK.g rfl rfl rfl rfl rfl (by simp) (OpOK.lenP (e := 54) rfl rfl (by kernel_rfl) rfl (by rw [List.length_map])),
    StepOK.g rfl rfl rfl rfl rfl (by simp) (OpOK.gtr rfl rfl rfl (decide_eq_false hs2)),
    StepOK.g rfl rfl rfl rfl rfl (by simp) (OpOK.lenP (e := 59) rfl rfl (by kernel_rfl) rfl (by rw [List.length_map])), trivial⟩ [(0, (.p (.sl false 1 (L.map D.cInt)))), (3, (.ref 1003 0)), (25, (vB (decide ((20 : Int) < ((q.Policies.length : Nat) : Int)))))] [(1003, a'3)] (by kernel_rfl) (by kernel_rfl) ?_
   refine AWp.cond (decide ((20 : Int) < ((q.Policies.length : Nat) : Int))) rfl (fun hc3 => ?_) (fun hc3 => ?_)
   ·skip
    replace hc3 := of_decide_eq_true hc3
    refine AWp.s_reg hGn hGk [.m (some 26) ⟨[], [], (vB true), [], []⟩, .a] ⟨StepOK.p rfl rfl rfl (OpOK.call rfl (by kernel_rfl) rfl law_sane (by kernel_rfl)), trivial⟩ [(4, (vB true))] [] (by kernel_rfl) (by kernel_rfl) ?_
    refine AWp.ret ?_
    refine nextQ_ret ?_
    refine fin_of (.inr rfl) (v := (vB true)) (Res.tmp rfl rfl) (h' := []) rfl rfl ?_
    exact ⟨rfl, rfl⟩
   ·skip
    replace hc3 := of_decide_eq_false hc3
    refine AWp.skip ?_
    refine nextQ_normal ?_
    have hL : L.length ≤ 500 := by omega
    have hi0 : crewI L 0 ≤ L.length := crewI_le (Nat.zero_le _)
    have hi1 : (bookI L (crewI L 0)) ≤ L.length := bookI_le hi0
    have hi2 : (oddBookI L (bookI L (crewI L 0)) (book L (crewI L 0))) ≤ L.length := oddBookI_le hi1
    let a'4 : AO := (.box [(.p (.sl false 1 (L.map D.cInt))), (vI ((0 : Nat) : Int))])
    refine AWp.s_reg hGn hGk [.a, .m (some 28) ⟨[(27, (.p (.sl false 1 (L.map D.cInt))))], [], (.ref 1 0), [(1, a'4)], [1]⟩, .a] ⟨StepOK.p rfl rfl rfl (OpOK.call rfl (by kernel_rfl) rfl (made_Roll L) (by kernel_rfl)), trivial⟩ [(3, (.ref 1003 0)), (5, (.ref 1 0))] [(1003, a'3), (1, a'4)] (by kernel_rfl) (by kernel_rfl) ?_
    let a'5 : AV := (.p (.sl false 3 (((crew L 0).Zones).map D.Zone.cells)))
    let a'6 : AV := (.p (.sl false 6 (((crew L 0).People).map D.Person.cells)))
    let a'7 : AV := (.p (.sl false 3 (((crew L 0).Calendars).map D.Calendar.cells)))
    let a'8 : AV := (.p (.sl false 3 (((crew L 0).Schedules).map D.Schedule.cells)))
    let a'9 : AV := (.agg [a'5, a'6, a'7, a'8])
    let a'10 : AV := (.p (.sl false 2 (((book L (crewI L 0)).Teams).map D.Team.cells)))
    let a'11 : AV := (.p (.sl false 3 (((book L (crewI L 0)).Policies).map D.Policy.cells)))
    let a'12 : AV := (.agg [a'10, a'11])
    let a'13 : AO := (.box [(.p (.sl false 1 (L.map D.cInt))), (vI ((bookI L (crewI L 0) : Nat) : Int))])
    let a'14 : AO := (.box [a'5, a'6, a'7, a'8])
    let a'15 : AO := (.box [a'10, a'11])
    refine AWp.s_reg hGn hGk [.a, .m (some 30) ⟨[(29, (.ref 1 0))], [(1, a'4)], a'9, [(1, (.box [(.p (.sl false 1 (L.map D.cInt))), (vI ((crewI L 0 : Nat) : Int))]))], []⟩, .a, .m (some 32) ⟨[(31, (.ref 1 0))], [(1, (.box [(.p (.sl false 1 (L.map D.cInt))), (vI ((crewI L 0 : Nat) : Int))]))], a'12, [(1, a'13)], []⟩, .a, .a, .a, .a] ⟨StepOK.p rfl rfl rfl (OpOK.call rfl (by kernel_rfl) rfl (made_Crew L 0 hL (by repeat (first | assumption | exact Nat.zero_le _ | apply nextI_le | apply personI_le | apply schI_le | apply ovE_le | apply layQ_le | apply oneI_le | apply targetI_le | apply teamI_le | apply stepI_le | apply policyI_le))) (by kernel_rfl)),
     StepOK.p rfl rfl rfl (OpOK.call rfl (by kernel_rfl) rfl (made_Book L (crewI L 0) hL (by repeat (first | assumption | exact Nat.zero_le _ | apply nextI_le | apply oneI_le | apply targetI_le | apply teamI_le | apply stepI_le | apply policyI_le))) (by kernel_rfl)), trivial⟩ [(3, (.ref 1003 0)), (5, (.ref 1 0)), (6, (.ref 1006 0)), (7, (.ref 1007 0))] [(1003, a'3), (1, a'13), (1006, a'14), (1007, a'15)] (by kernel_rfl) (by kernel_rfl) ?_
    let a'16 : AV := (.p (.sl false 2 (((oddBook L (bookI L (crewI L 0)) (book L (crewI L 0))).Teams).map D.Team.cells)))
    let a'17 : AV := (.p (.sl false 3 (((oddBook L (bookI L (crewI L 0)) (book L (crewI L 0))).Policies).map D.Policy.cells)))
    let a'18 : AO := (.box [(.p (.sl false 1 (L.map D.cInt))), (vI ((oddBookI L (bookI L (crewI L 0)) (book L (crewI L 0)) : Nat) : Int))])
    refine AWp.s_reg hGn hGk [.a, .a, .m (some 35) ⟨[(33, (.ref 1 0)), (34, a'12)], [(1, a'13)], (.agg [a'16, a'17]), [(1, a'18)], []⟩, .a, .a] ⟨StepOK.p rfl rfl rfl (OpOK.call rfl (by kernel_rfl) rfl (made_OddBook L (bookI L (crewI L 0)) (book L (crewI L 0)) hL (by repeat (first | assumption | exact Nat.zero_le _ | apply nextI_le | apply oneI_le | apply targetI_le | apply teamI_le | apply stepI_le | apply policyI_le)) (Nat.le_trans (book_B L (crewI L 0)).teams (by decide)) (Nat.le_trans (book_B L (crewI L 0)).pols (by decide)) (fun t ht => Nat.le_trans ((book_B L (crewI L 0)).mem t ht) (by decide)) (fun p hp => Nat.le_trans ((book_B L (crewI L 0)).steps p hp) (by decide)) (fun p hp s hs => Nat.le_trans ((book_B L (crewI L 0)).tgts p hp s hs) (by decide))) (by kernel_rfl)), trivial⟩ [(3, (.ref 1003 0)), (5, (.ref 1 0)), (6, (.ref 1006 0)), (7, (.ref 1007 0)), (8, (.ref 1008 0))] [(1003, a'3), (1, a'18), (1006, a'14), (1007, a'15), (1008, (.box [a'16, a'17]))] (by kernel_rfl) (by kernel_rfl) ?_
    refine AWp.seq ?_
    refine AWp.s_dreg hGn hGk (by kernel_rfl) [.a, .a, .a, .a, .m (some 40) ⟨[(38, (.ref 1 0)), (39, (.agg [a'16, a'17]))], [(1, a'18)], (.agg [(.p (.sl false 2 (((oddBook L (oddBookI L (bookI L (crewI L 0)) (book L (crewI L 0))) (oddBook L (bookI L (crewI L 0)) (book L (crewI L 0)))).Teams).map D.Team.cells))), (.p (.sl false 3 (((oddBook L (oddBookI L (bookI L (crewI L 0)) (book L (crewI L 0))) (oddBook L (bookI L (crewI L 0)) (book L (crewI L 0)))).Policies).map D.Policy.cells)))]), [(1, (.box [(.p (.sl false 1 (L.map D.cInt))), (vI ((oddBookI L (oddBookI L (bookI L (crewI L 0)) (book L (crewI L 0))) (oddBook L (bookI L (crewI L 0)) (book L (crewI L 0))) : Nat) : Int))]))], []⟩, .a, .a, .m (some 43) ⟨[(42, (.p (.sl true 2 [[(.sl false 2 (((book L (crewI L 0)).Teams).map D.Team.cells)), (.sl false 3 (((book L (crewI L 0)).Policies).map D.Policy.cells))], [(.sl false 2 (((oddBook L (bookI L (crewI L 0)) (book L (crewI L 0))).Teams).map D.Team.cells)), (.sl false 3 (((oddBook L (bookI L (crewI L 0)) (book L (crewI L 0))).Policies).map D.Policy.cells))], [(.sl false 2 (((oddBook L (oddBookI L (bookI L (crewI L 0)) (book L (crewI L 0))) (oddBook L (bookI L (crewI L 0)) (book L (crewI L 0)))).Teams).map D.Team.cells)), (.sl false 3 (((oddBook L (oddBookI L (bookI L (crewI L 0)) (book L (crewI L 0))) (oddBook L (bookI L (crewI L 0)) (book L (crewI L 0)))).Policies).map D.Policy.cells))], [(.sl false 2 (q.Teams.map D.Team.cells)), (.sl false 3 (q.Policies.map D.Policy.cells))]])))], [], (vI 4), [], []⟩, .a] ⟨StepOK.p rfl rfl rfl (OpOK.call rfl (by kernel_rfl) rfl (made_OddBook L (oddBookI L (bookI L (crewI L 0)) (book L (crewI L 0))) (oddBook L (bookI L (crewI L 0)) (book L (crewI L 0))) hL (by repeat (first | assumption | exact Nat.zero_le _ | apply nextI_le | apply oneI_le | apply targetI_le | apply teamI_le | apply stepI_le | apply policyI_le)) (Nat.le_trans (odd_B (L := L) (i := (bookI L (crewI L 0))) (book_B L (crewI L 0))).teams (by decide)) (Nat.le_trans (odd_B (L := L) (i := (bookI L (crewI L 0))) (book_B L (crewI L 0))).pols (by decide)) (fun t ht => Nat.le_trans ((odd_B (L := L) (i := (bookI L (crewI L 0))) (book_B L (crewI L 0))).mem t ht) (by decide)) (fun p hp => Nat.le_trans ((odd_B (L := L) (i := (bookI L (crewI L 0))) (book_B L (crewI L 0))).steps p hp) (by decide)) (fun p hp s hs => Nat.le_trans ((odd_B (L := L) (i := (bookI L (crewI L 0))) (book_B L (crewI L 0))).tgts p hp s hs) (by decide))) (by kernel_rfl)),
     StepOK.p rfl rfl rfl (OpOK.lenP (e := 26) rfl rfl (by kernel_rfl) rfl rfl), trivial⟩ [(6, (.ref 1006 0)), (7, (.ref 1007 0)), (42, (.p (.sl true 2 [[(.sl false 2 (((book L (crewI L 0)).Teams).map D.Team.cells)), (.sl false 3 (((book L (crewI L 0)).Policies).map D.Policy.cells))], [(.sl false 2 (((oddBook L (bookI L (crewI L 0)) (book L (crewI L 0))).Teams).map D.Team.cells)), (.sl false 3 (((oddBook L (bookI L (crewI L 0)) (book L (crewI L 0))).Policies).map D.Policy.cells))], [(.sl false 2 (((oddBook L (oddBookI L (bookI L (crewI L 0)) (book L (crewI L 0))) (oddBook L (bookI L (crewI L 0)) (book L (crewI L 0)))).Teams).map D.Team.cells)), (.sl false 3 (((oddBook L (oddBookI L (bookI L (crewI L 0)) (book L (crewI L 0))) (oddBook L (bookI L (crewI L 0)) (book L (crewI L 0)))).Policies).map D.Policy.cells))], [(.sl false 2 (q.Teams.map D.Team.cells)), (.sl false 3 (q.Policies.map D.Policy.cells))]]))), (43, (vI 4)), (44, (vI 0))] [(1006, a'14), (1007, a'15)] (by kernel_rfl) (by kernel_rfl) (by kernel_rfl) ?_
    refine AWp.block ?_
    obtain ⟨xs, hxs⟩ : ∃ xs : List D.Book, [(book L (crewI L 0)), (oddBook L (bookI L (crewI L 0)) (book L (crewI L 0))), (oddBook L (oddBookI L (bookI L (crewI L 0)) (book L (crewI L 0))) (oddBook L (bookI L (crewI L 0)) (book L (crewI L 0)))), q] = xs := ⟨_, rfl⟩
    have hxl : xs.length = 4 := by rw [← hxs]; rfl
    have hx : ∀ {j : Nat}, j < 4 → ∀ t ∈ (nth xs j).Teams, t.Members.length ≤ 9223372036854775807 := fun {j} hj => by
     rw [← hxs]
     have h1 := book_B L (crewI L 0)
     have h2 := odd_B (L := L) (i := (bookI L (crewI L 0))) h1
     have h3 := odd_B (L := L) (i := (oddBookI L (bookI L (crewI L 0)) (book L (crewI L 0)))) h2
     match j, hj with
     | 0, _ => exact fun t ht => Nat.le_trans (h1.mem t ht) (by decide)
     | 1, _ => exact fun t ht => Nat.le_trans (h2.mem t ht) (by decide)
     | 2, _ => exact fun t ht => Nat.le_trans (h3.mem t ht) (by decide)
     | 3, _ => exact hq
    refine AWp.cast (show (mk [(6, (.ref 1006 0)), (7, (.ref 1007 0)), (42, (.p (.sl true 2 [[(.sl false 2 (((book L (crewI L 0)).Teams).map D.Team.cells)), (.sl false 3 (((book L (crewI L 0)).Policies).map D.Policy.cells))], [(.sl false 2 (((oddBook L (bookI L (crewI L 0)) (book L (crewI L 0))).Teams).map D.Team.cells)), (.sl false 3 (((oddBook L (bookI L (crewI L 0)) (book L (crewI L 0))).Policies).map D.Policy.cells))], [(.sl false 2 (((oddBook L (oddBookI L (bookI L (crewI L 0)) (book L (crewI L 0))) (oddBook L (bookI L (crewI L 0)) (book L (crewI L 0)))).Teams).map D.Team.cells)), (.sl false 3 (((oddBook L (oddBookI L (bookI L (crewI L 0)) (book L (crewI L 0))) (oddBook L (bookI L (crewI L 0)) (book L (crewI L 0)))).Policies).map D.Policy.cells))], [(.sl false 2 (q.Teams.map D.Team.cells)), (.sl false 3 (q.Policies.map D.Policy.cells))]]))), (43, (vI 4)), (44, (vI 0))] [(1006, (.box [(.p (.sl false 3 (((crew L 0).Zones).map D.Zone.cells))), (.p (.sl false 6 (((crew L 0).People).map D.Person.cells))), (.p (.sl false 3 (((crew L 0).Calendars).map D.Calendar.cells))), (.p (.sl false 3 (((crew L 0).Schedules).map D.Schedule.cells)))])), (1007, (.box [(.p (.sl false 2 (((book L (crewI L 0)).Teams).map D.Team.cells))), (.p (.sl false 3 (((book L (crewI L 0)).Policies).map D.Policy.cells)))]))]) = (mk [(6, (.ref 1006 0)), (7, (.ref 1007 0)), (42, (.p (.sl true 2 (xs.map D.Book.cells)))), (43, (vI 4)), (44, (vI 0))] [(1006, (.box [(.p (.sl false 3 (((crew L 0).Zones).map D.Zone.cells))), (.p (.sl false 6 (((crew L 0).People).map D.Person.cells))), (.p (.sl false 3 (((crew L 0).Calendars).map D.Calendar.cells))), (.p (.sl false 3 (((crew L 0).Schedules).map D.Schedule.cells)))])), (1007, (.box [(.p (.sl false 2 (((book L (crewI L 0)).Teams).map D.Team.cells))), (.p (.sl false 3 (((book L (crewI L 0)).Policies).map D.Policy.cells)))]))]) from by rw [← hxs]; rfl) ?_
    refine AWp.loop (fun m s => ∃ j, s = (mk [(6, (.ref 1006 0)), (7, (.ref 1007 0)), (42, (.p (.sl true 2 (xs.map D.Book.cells)))), (43, (vI 4)), (44, (vI ((j : Nat) : Int)))] [(1006, (.box [(.p (.sl false 3 (((crew L 0).Zones).map D.Zone.cells))), (.p (.sl false 6 (((crew L 0).People).map D.Person.cells))), (.p (.sl false 3 (((crew L 0).Calendars).map D.Calendar.cells))), (.p (.sl false 3 (((crew L 0).Schedules).map D.Schedule.cells)))])), (1007, (.box [(.p (.sl false 2 (((book L (crewI L 0)).Teams).map D.Team.cells))), (.p (.sl false 3 (((book L (crewI L 0)).Policies).map D.Policy.cells)))]))]) ∧ (j ≤ 4) ∧ m = (4 - j))
     ⟨_, 0, rfl, (by omega), rfl⟩ ?_
    rintro mm4 s ⟨j, rfl, hj, hmm4⟩
    let a'19 : AV := (.p (.sl true 2 (xs.map D.Book.cells)))
    refine AWp.s_reg hGn hGk (aa 1) (Man.aa _ _) [(6, (.ref 1006 0)), (7, (.ref 1007 0)), (42, a'19), (43, (vI 4)), (44, (vI ((j : Nat) : Int))), (45, (vB (decide (((j : Nat) : Int) < (4 : Int)))))] [(1006, a'14), (1007, a'15)] (by kernel_rfl) (by kernel_rfl) ?_
    refine AWp.seq ?_
    refine AWp.cond (decide (((j : Nat) : Int) < (4 : Int))) rfl (fun hc5 => ?_) (fun hc5 => ?_)
    ·skip
     replace hc5 := of_decide_eq_true hc5
     refine AWp.skip ?_
     refine nextQ_normal ?_
     refine AWp.seq ?_
     refine AWp.block ?_
     let a'20 : AV := (.p (.sl false 2 (((nth xs j).Teams).map D.Team.cells)))
     let a'21 : AV := (.p (.sl false 3 (((nth xs j).Policies).map D.Policy.cells)))
     refine AWp.s_reg hGn hGk [.m (some 46) ⟨[(42, a'19), (44, (vI ((j : Nat) : Int)))], [], (.eptr [(.sl false 2 (((nth xs j).Teams).map D.Team.cells)), (.sl false 3 (((nth xs j).Policies).map D.Policy.cells))]), [], []⟩, .a, .a, .a] ⟨StepOK.p rfl rfl rfl (OpOK.indexP (e := 26) rfl (by kernel_rfl) (by kernel_rfl) rfl rfl rfl (map_nth (by omega))), trivial⟩ [(6, (.ref 1006 0)), (7, (.ref 1007 0)), (10, (.ref 1010 0)), (42, a'19), (43, (vI 4)), (44, (vI ((j : Nat) : Int)))] [(1006, a'14), (1007, a'15), (1010, (.box [a'20, a'21]))] (by kernel_rfl) (by kernel_rfl) ?_
     let a'22 : AV := (.agg [a'20, a'21])
     refine AWp.s_dreg hGn hGk (by kernel_rfl) [.a, .a, .m (some 50) ⟨[(48, a'9), (49, a'22)], [], (vI (bookErr 4 2 (nth xs j))), [], []⟩, .a, .a, .m (some 53) ⟨[(51, a'9), (52, a'22)], [], (vI (bookErr 4 2 (nth xs j))), [], []⟩, .m (some 54) ⟨[(50, (vI (bookErr 4 2 (nth xs j)))), (53, (vI (bookErr 4 2 (nth xs j))))], [], (vB false), [], []⟩, .a, .a, .a, .m (some 58) ⟨[(56, (.agg [(.p (.sl true 0 [])), (.p (.sl true 0 [])), (.p (.sl true 0 [])), (.p (.sl true 0 []))])), (57, a'22), (55, (vB false))], [], (vI (bookErr 0 0 (nth xs j))), [], []⟩, .a, .a, .m (some 61) ⟨[(59, (.agg [(.p (.sl true 0 [])), (.p (.sl true 0 [])), (.p (.sl true 0 [])), (.p (.sl true 0 []))])), (60, a'22), (55, (vB false))], [], (vI (bookErr 0 0 (nth xs j))), [], []⟩, .m (some 62) ⟨[(58, (vI (bookErr 0 0 (nth xs j)))), (61, (vI (bookErr 0 0 (nth xs j)))), (55, (vB false))], [], (vB false), [], []⟩, .a] ⟨StepOK.p rfl rfl rfl (OpOK.call rfl (by kernel_rfl) rfl (by have h := pol_Check (crew L 0) (nth xs j) (by rw [(crew_ok L 0).plen]; decide) (by rw [(crew_ok L 0).slen]; decide) (hx (by omega)) (res_Check (crew L 0) (crew_ok L 0)); rw [(crew_ok L 0).plen, (crew_ok L 0).slen] at h; exact h) (by kernel_rfl)),
      StepOK.p rfl rfl rfl (OpOK.call rfl (by kernel_rfl) rfl (by have h := ref_Check (crew L 0) (nth xs j) (hx (by omega)) (r08_Check (crew L 0) (crew_ok L 0)); rw [(crew_ok L 0).plen, (crew_ok L 0).slen] at h; exact h) (by kernel_rfl)),
      StepOK.p rfl rfl rfl (OpOK.neqI rfl rfl rfl (decide_eq_false (fun h => h rfl))),
      StepOK.g rfl rfl rfl rfl rfl (by simp) (OpOK.call rfl (by kernel_rfl) rfl (Spec.argsLe (pol_Check cfg0 (nth xs j) (by decide) (by decide) (hx (by omega)) res0_Check) (.cons (.agg (.cons (.p (PVle.nil (by simp))) (.cons (.p (PVle.nil (by simp))) (.cons (.p (PVle.nil (by simp))) (.cons (.p (PVle.nil (by simp))) .nil))))) (.cons (.refl _) .nil))) (by kernel_rfl)),
      StepOK.g rfl rfl rfl rfl rfl (by simp) (OpOK.call rfl (by kernel_rfl) rfl (Spec.argsLe (ref_Check cfg0 (nth xs j) (hx (by omega)) r080_Check) (.cons (.agg (.cons (.p (PVle.nil (by simp))) (.cons (.p (PVle.nil (by simp))) (.cons (.p (PVle.nil (by simp))) (.cons (.p (PVle.nil (by simp))) .nil))))) (.cons (.refl _) .nil))) (by kernel_rfl)),
      StepOK.g rfl rfl rfl rfl rfl (by simp) (OpOK.neqI rfl rfl rfl (decide_eq_false (fun h => h rfl))), trivial⟩ [(6, (.ref 1006 0)), (7, (.ref 1007 0)), (42, a'19), (43, (vI 4)), (44, (vI ((j : Nat) : Int))), (63, (vB false))] [(1006, a'14), (1007, a'15)] (by kernel_rfl) (by kernel_rfl) (by kernel_rfl) ?_
     refine AWp.cond_false rfl ?_
     refine AWp.skip ?_
     refine blockQ_normal ?_
     refine nextQ_normal ?_
     refine AWp.reg' hGn hGk [.m (some 64) ⟨[(44, (vI ((j : Nat) : Int)))], [], (vI ((j + 1 : Nat) : Int)), [], []⟩, .a] ⟨StepOK.p rfl rfl rfl (OpOK.add rfl rfl rfl (by rw [IntWalk.i64_in _ ⟨by omega, by omega⟩]; omega)), trivial⟩ [(6, (.ref 1006 0)), (7, (.ref 1007 0)), (42, a'19), (43, (vI 4)), (44, (vI ((j + 1 : Nat) : Int)))] [(1006, a'14), (1007, a'15)] (by kernel_rfl) (by kernel_rfl) ?_
     refine nextQ_normal ⟨_, ?_, (j + 1), rfl, (by omega), rfl⟩
     · omega
    ·skip
     replace hc5 := of_decide_eq_false hc5
     refine AWp.weaken (mk [(6, (.ref 1006 0)), (7, (.ref 1007 0))] [(1006, a'14), (1007, a'15)]) (Weak.sub' hGk (by kernel_rfl)) ?_
     refine AWp.exit ?_
     refine nextQ_exit ?_
     refine nextQ_exit ?_
     refine blockQ_exit ?_
     refine nextQ_normal ?_
     refine AWp.s_reg hGn hGk [.a, .a, .m (some 67) ⟨[(65, a'9), (66, a'12)], [], (vI (bookErr 4 2 (book L (crewI L 0)))), [], []⟩, .m (some 68) ⟨[(67, (vI (bookErr 4 2 (book L (crewI L 0)))))], [], (vB true), [], []⟩, .a, .m (some 70) ⟨[(69, (vB true))], [], (vB true), [], []⟩, .a, .a] ⟨StepOK.p rfl rfl rfl (OpOK.call rfl (by kernel_rfl) rfl (by have h := pol_Check (crew L 0) (book L (crewI L 0)) (by rw [(crew_ok L 0).plen]; decide) (by rw [(crew_ok L 0).slen]; decide) (fun t ht => Nat.le_trans ((book_B L (crewI L 0)).mem t ht) (by decide)) (res_Check (crew L 0) (crew_ok L 0)); rw [(crew_ok L 0).plen, (crew_ok L 0).slen] at h; exact h) (by kernel_rfl)),
      StepOK.p rfl rfl rfl (OpOK.eqlI rfl rfl rfl (decide_eq_true (book_valid L (crewI L 0)))),
      StepOK.g rfl rfl rfl rfl rfl (by simp) (OpOK.call rfl (by kernel_rfl) rfl law_sane (by kernel_rfl)), trivial⟩ [(4, (vB true))] [] (by kernel_rfl) (by kernel_rfl) ?_
     refine AWp.ret ?_
     refine fin_of (.inr rfl) (v := (vB true)) (Res.tmp rfl rfl) (h' := []) rfl rfl ?_
     exact ⟨rfl, rfl⟩
 ·skip
  refine AWp.s_reg hGn hGk [.a, .m (some 12) ⟨[(11, (.p (.sl false 1 (L.map D.cInt))))], [], (vB false), [], []⟩, .a, .a, .a, .a, .a, .a, .a, .a, .a, .a, .a, .a, .a] ⟨StepOK.p rfl rfl rfl (OpOK.call rfl (by kernel_rfl) rfl (by have hq := (made_Light L); rw [(decide_eq_false hs1)] at hq; exact hq) (by kernel_rfl)), trivial⟩ [(0, (.p (.sl false 1 (L.map D.cInt)))), (3, (.ref 1003 0)), (25, (vB true))] [(1003, a'3)] (by kernel_rfl) (by kernel_rfl) ?_
  refine AWp.cond_true rfl ?_
  refine AWp.s_reg hGn hGk [.m (some 26) ⟨[], [], (vB true), [], []⟩, .a] ⟨StepOK.p rfl rfl rfl (OpOK.call rfl (by kernel_rfl) rfl law_sane (by kernel_rfl)), trivial⟩ [(4, (vB true))] [] (by kernel_rfl) (by kernel_rfl) ?_
  refine AWp.ret ?_
  refine nextQ_ret ?_
  refine fin_of (.inr rfl) (v := (vB true)) (Res.tmp rfl rfl) (h' := []) rfl rfl ?_
  exact ⟨rfl, rfl⟩
end Go.Proofs.YtnilcaihikfhbaaGreat
