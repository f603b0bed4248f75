/-
  The walks of policy.Format, policy.Parse, of the comparison of books. Printed by wip/gen/pol.py.
-/
import Derived.Test.YtimfbibaoppfcaaGreatDoorLineWalk
import Derived.Test.YtimfbibaoppfcaaGreatDoorAmS
set_option maxRecDepth 100000
set_option linter.unusedSimpArgs false
set_option linter.unusedVariables false
namespace Go.Proofs.YtimfbibaoppfcaaGreatDoor
open Go AM
theorem pol_names (c : D.Config) (b : D.Book) (h : CfgOK c) (hb : BookV b) (l : List D.Target) (hll : l.length ≤ 6) (hl : ∀ j, j < l.length → TgtOK b.Teams.length (nth l j)) :
    SpecIs Tryz.prog 61 [(.agg [(.p (.sl false 3 (c.Zones.map D.Zone.cells))), (.p (.sl false 6 (c.People.map D.Person.cells))), (.p (.sl false 3 (c.Calendars.map D.Calendar.cells))), (.p (.sl false 3 (c.Schedules.map D.Schedule.cells)))]), (.agg [(.p (.sl false 2 (b.Teams.map D.Team.cells))), (.p (.sl false 3 (b.Policies.map D.Policy.cells)))]), (.p (.sl false 2 (l.map D.Target.cells)))] [] (.p (.sl false 1 ((namesV c b l l.length).map D.cStr))) [] := by
 refine Spec.intro Tryz.func61 rfl (by kernel_rfl) ?_
 intro Γ hGn hGk
 replace hGn : Γ.n = 54 := hGn
 replace hGk : Γ.names = [] := hGk
 have hpl := h.plen
 have hsl := h.slen
 let a'1 : AV := (.p (.sl false 3 (c.Zones.map D.Zone.cells)))
 let a'2 : AV := (.p (.sl false 6 (c.People.map D.Person.cells)))
 let a'3 : AV := (.p (.sl false 3 (c.Calendars.map D.Calendar.cells)))
 let a'4 : AV := (.p (.sl false 3 (c.Schedules.map D.Schedule.cells)))
 let a'5 : AV := (.p (.sl false 2 (b.Teams.map D.Team.cells)))
 let a'6 : AV := (.p (.sl false 3 (b.Policies.map D.Policy.cells)))
 let a'7 : AV := (.p (.sl false 2 (l.map D.Target.cells)))
 refine AWp.weaken (mk [(0, (.agg [a'1, a'2, a'3, a'4])), (1, (.agg [a'5, a'6])), (2, a'7)] []) (Weak.sub' hGk (by kernel_rfl)) ?_
 let a'8 : AO := (.box [a'1, a'2, a'3, a'4])
 let a'9 : AO := (.box [a'5, a'6])
 refine AWp.s_reg hGn hGk (aa 3) (Man.aa _ _) [(2, a'7), (3, (.ref 1003 0)), (4, (.ref 1004 0))] [(1003, a'8), (1004, a'9)] (by kernel_rfl) (by kernel_rfl) ?_
 refine AWp.s_reg hGn hGk (aa 1) (Man.aa _ _) [(2, a'7), (3, (.ref 1003 0)), (4, (.ref 1004 0)), (7, (.p (.sl true 0 [])))] [(1003, a'8), (1004, a'9)] (by kernel_rfl) (by kernel_rfl) ?_
 refine AWp.seq ?_
 refine AWp.s_reg hGn hGk [.a, .m (some 11) ⟨[(10, a'7)], [], (vI ((l.length : Nat) : Int)), [], []⟩, .a] ⟨StepOK.p rfl rfl rfl (OpOK.lenP (e := 113) rfl rfl (by kernel_rfl) rfl (by rw [List.length_map])), trivial⟩ [(3, (.ref 1003 0)), (4, (.ref 1004 0)), (7, (.p (.sl true 0 []))), (10, a'7), (11, (vI ((l.length : Nat) : Int))), (12, (vI 0))] [(1003, a'8), (1004, a'9)] (by kernel_rfl) (by kernel_rfl) ?_
 refine AWp.block ?_
 refine AWp.weaken (mk [(3, (.ref 1003 0)), (4, (.ref 1004 0)), (7, (.own 2000 0)), (10, a'7), (11, (vI ((l.length : Nat) : Int))), (12, (vI 0))] [(2000, (.arr 1 [])), (1003, a'8), (1004, a'9)]) (Weak.thaw (t := 7) (es0 := 0) (by kernel_rfl) rfl (by kernel_rfl) (by kernel_rfl) (by kernel_rfl)) ?_
 refine AWp.loop (fun m s => ∃ j, s = (mk [(3, (.ref 1003 0)), (4, (.ref 1004 0)), (7, (.own 2000 (((namesV c b l j).map D.cStr).length))), (10, (.p (.sl false 2 (l.map D.Target.cells)))), (11, (vI ((l.length : Nat) : Int))), (12, (vI ((j : Nat) : Int)))] [(2000, (.arr 1 ((namesV c b l j).map D.cStr))), (1003, (.box [(.p (.sl false 3 (c.Zones.map D.Zone.cells))), (.p (.sl false 6 (c.People.map D.Person.cells))), (.p (.sl false 3 (c.Calendars.map D.Calendar.cells))), (.p (.sl false 3 (c.Schedules.map D.Schedule.cells)))])), (1004, (.box [(.p (.sl false 2 (b.Teams.map D.Team.cells))), (.p (.sl false 3 (b.Policies.map D.Policy.cells)))]))]) ∧ (j ≤ l.length) ∧ m = (l.length - j))
  ⟨_, 0, rfl, (by omega), rfl⟩ ?_
 rintro mm1 s ⟨j, rfl, hj, hmm1⟩
 have hnl := namesV_len c b l j
 let a'10 : AV := (.own 2000 (((namesV c b l j).map D.cStr).length))
 let a'11 : AO := (.arr 1 ((namesV c b l j).map D.cStr))
 refine AWp.s_reg hGn hGk (aa 1) (Man.aa _ _) [(3, (.ref 1003 0)), (4, (.ref 1004 0)), (7, a'10), (10, a'7), (11, (vI ((l.length : Nat) : Int))), (12, (vI ((j : Nat) : Int))), (13, (vB (decide (((j : Nat) : Int) < ((l.length : Nat) : Int)))))] [(2000, a'11), (1003, a'8), (1004, a'9)] (by kernel_rfl) (by kernel_rfl) ?_
 refine AWp.seq ?_
 refine AWp.cond (decide (((j : Nat) : Int) < ((l.length : Nat) : Int))) rfl (fun hc2 => ?_) (fun hc2 => ?_)
 ·skip
  replace hc2 := of_decide_eq_true hc2
  refine AWp.skip ?_
  refine nextQ_normal ?_
  refine AWp.seq ?_
  refine AWp.block ?_
  have htg := hl j (by omega)
  unfold TgtOK at htg
  let a'12 : AO := (.box [(vI ((nth l j).Kind)), (vI ((nth l j).Index))])
  refine AWp.s_reg hGn hGk [.m (some 14) ⟨[(10, a'7), (12, (vI ((j : Nat) : Int)))], [], (.eptr [(pI ((nth l j).Kind)), (pI ((nth l j).Index))]), [], []⟩, .a, .a, .a] ⟨StepOK.p rfl rfl rfl (OpOK.indexP (e := 113) rfl (by kernel_rfl) (by kernel_rfl) rfl rfl rfl (map_nth (by omega))), trivial⟩ [(3, (.ref 1003 0)), (4, (.ref 1004 0)), (7, a'10), (9, (.ref 1009 0)), (10, a'7), (11, (vI ((l.length : Nat) : Int))), (12, (vI ((j : Nat) : Int)))] [(2000, a'11), (1003, a'8), (1004, a'9), (1009, a'12)] (by kernel_rfl) (by kernel_rfl) ?_
  refine AWp.s_reg hGn hGk (aa 2) (Man.aa _ _) [(3, (.ref 1003 0)), (4, (.ref 1004 0)), (7, a'10), (9, (.ref 1009 0)), (10, a'7), (11, (vI ((l.length : Nat) : Int))), (12, (vI ((j : Nat) : Int))), (17, (vI ((nth l j).Kind)))] [(2000, a'11), (1003, a'8), (1004, a'9), (1009, a'12)] (by kernel_rfl) (by kernel_rfl) ?_
  refine AWp.block ?_
  refine AWp.s_reg hGn hGk (aa 2) (Man.aa _ _) [(3, (.ref 1003 0)), (4, (.ref 1004 0)), (7, a'10), (9, (.ref 1009 0)), (10, a'7), (11, (vI ((l.length : Nat) : Int))), (12, (vI ((j : Nat) : Int))), (17, (vI ((nth l j).Kind))), (28, (vB (decide (((nth l j).Kind) = (0 : Int)))))] [(2000, a'11), (1003, a'8), (1004, a'9), (1009, a'12)] (by kernel_rfl) (by kernel_rfl) ?_
  refine AWp.cond (decide (((nth l j).Kind) = (0 : Int))) rfl (fun hc3 => ?_) (fun hc3 => ?_)
  ·skip
   replace hc3 := of_decide_eq_true hc3
   let a'13 : AV := (.own 2000 ((((namesV c b l j) ++ [(ByteArray.mk #[112, 101, 114, 115, 111, 110]), (nth c.People (((nth l j).Index).toNat)).Name]).map D.cStr).length))
   let a'14 : AO := (.arr 1 (((namesV c b l j) ++ [(ByteArray.mk #[112, 101, 114, 115, 111, 110]), (nth c.People (((nth l j).Index).toNat)).Name]).map D.cStr))
   refine AWp.reg' hGn hGk [.a, .a, .a, .a, .a, .m (some 35) ⟨[(32, a'2), (34, (vI ((nth l j).Index)))], [], (.eptr [(pS ((nth c.People (((nth l j).Index).toNat)).Name)), (pI ((nth c.People (((nth l j).Index).toNat)).Zone)), (.sl false 2 (((nth c.People (((nth l j).Index).toNat)).Quiet).map D.Window.cells)), (pI ((nth c.People (((nth l j).Index).toNat)).MaxWeek)), (pI ((nth c.People (((nth l j).Index).toNat)).MinRest)), (pB ((nth c.People (((nth l j).Index).toNat)).Consent))]), [], []⟩, .a, .a, .a, .m (some 39) ⟨[(30, a'10), (38, (.p (.sl true 1 [[(pS (ByteArray.mk #[112, 101, 114, 115, 111, 110]))], [(pS ((nth c.People (((nth l j).Index).toNat)).Name))]])))], [(2000, a'11)], a'13, [(2000, a'14)], []⟩, .a] ⟨StepOK.p rfl rfl rfl (OpOK.indexP (e := 75) rfl (by kernel_rfl) (by kernel_rfl) rfl rfl (by omega) (map_nth (by omega))),
    StepOK.p rfl rfl rfl (OpOK.appendOwn (e := 9) (bytes := 16) rfl rfl (by kernel_rfl) (by kernel_rfl) rfl (Nat.beq_refl _) rfl (by rw [List.map_append]; rfl) rfl (by simp only [List.length_map, List.length_cons, List.length_nil]; omega) (by simp only [List.length_map, List.length_cons, List.length_nil]; omega)), trivial⟩ [(3, (.ref 1003 0)), (4, (.ref 1004 0)), (7, a'13), (10, a'7), (11, (vI ((l.length : Nat) : Int))), (12, (vI ((j : Nat) : Int)))] [(2000, a'14), (1003, a'8), (1004, a'9)] (by kernel_rfl) (by kernel_rfl) ?_
   refine blockQ_normal ?_
   refine blockQ_normal ?_
   refine nextQ_normal ?_
   refine AWp.reg' hGn hGk [.m (some 52) ⟨[(12, (vI ((j : Nat) : Int)))], [], (vI ((j + 1 : Nat) : Int)), [], []⟩, .a] ⟨StepOK.p rfl rfl rfl (OpOK.add rfl rfl rfl (by rw [IntWalk.i64_in _ ⟨by omega, by omega⟩]; omega)), trivial⟩ [(3, (.ref 1003 0)), (4, (.ref 1004 0)), (7, a'13), (10, a'7), (11, (vI ((l.length : Nat) : Int))), (12, (vI ((j + 1 : Nat) : Int)))] [(2000, a'14), (1003, a'8), (1004, a'9)] (by kernel_rfl) (by kernel_rfl) ?_
   refine nextQ_normal ⟨_, ?_, (j + 1), (by rw [namesV_0 (by assumption)] <;> rfl), (by omega), rfl⟩
   · omega
  ·skip
   replace hc3 := of_decide_eq_false hc3
   refine AWp.s_reg hGn hGk (aa 2) (Man.aa _ _) [(3, (.ref 1003 0)), (4, (.ref 1004 0)), (7, a'10), (9, (.ref 1009 0)), (10, a'7), (11, (vI ((l.length : Nat) : Int))), (12, (vI ((j : Nat) : Int))), (40, (vB (decide (((nth l j).Kind) = (1 : Int)))))] [(2000, a'11), (1003, a'8), (1004, a'9), (1009, a'12)] (by kernel_rfl) (by kernel_rfl) ?_
   refine AWp.cond (decide (((nth l j).Kind) = (1 : Int))) rfl (fun hc4 => ?_) (fun hc4 => ?_)
   ·skip
    replace hc4 := of_decide_eq_true hc4
    let a'15 : AV := (.own 2000 ((((namesV c b l j) ++ [(ByteArray.mk #[115, 99, 104, 101, 100, 117, 108, 101]), (nth c.Schedules (((nth l j).Index).toNat)).Name]).map D.cStr).length))
    let a'16 : AO := (.arr 1 (((namesV c b l j) ++ [(ByteArray.mk #[115, 99, 104, 101, 100, 117, 108, 101]), (nth c.Schedules (((nth l j).Index).toNat)).Name]).map D.cStr))
    refine AWp.reg' hGn hGk [.a, .a, .a, .a, .a, .m (some 47) ⟨[(44, a'4), (46, (vI ((nth l j).Index)))], [], (.eptr [(pS ((nth c.Schedules (((nth l j).Index).toNat)).Name)), (.sl false 10 (((nth c.Schedules (((nth l j).Index).toNat)).Layers).map D.Layer.cells)), (.sl false 5 (((nth c.Schedules (((nth l j).Index).toNat)).Edits).map D.Edit.cells))]), [], []⟩, .a, .a, .a, .m (some 51) ⟨[(42, a'10), (50, (.p (.sl true 1 [[(pS (ByteArray.mk #[115, 99, 104, 101, 100, 117, 108, 101]))], [(pS ((nth c.Schedules (((nth l j).Index).toNat)).Name))]])))], [(2000, a'11)], a'15, [(2000, a'16)], []⟩, .a] ⟨StepOK.p rfl rfl rfl (OpOK.indexP (e := 85) rfl (by kernel_rfl) (by kernel_rfl) rfl rfl (by omega) (map_nth (by omega))),
     StepOK.p rfl rfl rfl (OpOK.appendOwn (e := 9) (bytes := 16) rfl rfl (by kernel_rfl) (by kernel_rfl) rfl (Nat.beq_refl _) rfl (by rw [List.map_append]; rfl) rfl (by simp only [List.length_map, List.length_cons, List.length_nil]; omega) (by simp only [List.length_map, List.length_cons, List.length_nil]; omega)), trivial⟩ [(3, (.ref 1003 0)), (4, (.ref 1004 0)), (7, a'15), (10, a'7), (11, (vI ((l.length : Nat) : Int))), (12, (vI ((j : Nat) : Int)))] [(2000, a'16), (1003, a'8), (1004, a'9)] (by kernel_rfl) (by kernel_rfl) ?_
    refine blockQ_normal ?_
    refine blockQ_normal ?_
    refine nextQ_normal ?_
    refine AWp.reg' hGn hGk [.m (some 52) ⟨[(12, (vI ((j : Nat) : Int)))], [], (vI ((j + 1 : Nat) : Int)), [], []⟩, .a] ⟨StepOK.p rfl rfl rfl (OpOK.add rfl rfl rfl (by rw [IntWalk.i64_in _ ⟨by omega, by omega⟩]; omega)), trivial⟩ [(3, (.ref 1003 0)), (4, (.ref 1004 0)), (7, a'15), (10, a'7), (11, (vI ((l.length : Nat) : Int))), (12, (vI ((j + 1 : Nat) : Int)))] [(2000, a'16), (1003, a'8), (1004, a'9)] (by kernel_rfl) (by kernel_rfl) ?_
    refine nextQ_normal ⟨_, ?_, (j + 1), (by rw [namesV_1 (by assumption) (by assumption)] <;> rfl), (by omega), rfl⟩
    · omega
   ·skip
    replace hc4 := of_decide_eq_false hc4
    let a'17 : AV := (.own 2000 ((((namesV c b l j) ++ [(ByteArray.mk #[116, 101, 97, 109]), (nth b.Teams (((nth l j).Index).toNat)).Name]).map D.cStr).length))
    let a'18 : AO := (.arr 1 (((namesV c b l j) ++ [(ByteArray.mk #[116, 101, 97, 109]), (nth b.Teams (((nth l j).Index).toNat)).Name]).map D.cStr))
    refine AWp.reg' hGn hGk [.a, .a, .a, .a, .a, .m (some 23) ⟨[(20, a'5), (22, (vI ((nth l j).Index)))], [], (.eptr [(pS ((nth b.Teams (((nth l j).Index).toNat)).Name)), (.sl false 1 (((nth b.Teams (((nth l j).Index).toNat)).Members).map D.cInt))]), [], []⟩, .a, .a, .a, .m (some 27) ⟨[(18, a'10), (26, (.p (.sl true 1 [[(pS (ByteArray.mk #[116, 101, 97, 109]))], [(pS ((nth b.Teams (((nth l j).Index).toNat)).Name))]])))], [(2000, a'11)], a'17, [(2000, a'18)], []⟩, .a] ⟨StepOK.p rfl rfl rfl (OpOK.indexP (e := 111) rfl (by kernel_rfl) (by kernel_rfl) rfl rfl (by omega) (map_nth (by omega))),
     StepOK.p rfl rfl rfl (OpOK.appendOwn (e := 9) (bytes := 16) rfl rfl (by kernel_rfl) (by kernel_rfl) rfl (Nat.beq_refl _) rfl (by rw [List.map_append]; rfl) rfl (by simp only [List.length_map, List.length_cons, List.length_nil]; omega) (by simp only [List.length_map, List.length_cons, List.length_nil]; omega)), trivial⟩ [(3, (.ref 1003 0)), (4, (.ref 1004 0)), (7, a'17), (10, a'7), (11, (vI ((l.length : Nat) : Int))), (12, (vI ((j : Nat) : Int)))] [(2000, a'18), (1003, a'8), (1004, a'9)] (by kernel_rfl) (by kernel_rfl) ?_
    refine blockQ_normal ?_
    refine blockQ_normal ?_
    refine nextQ_normal ?_
    refine AWp.reg' hGn hGk [.m (some 52) ⟨[(12, (vI ((j : Nat) : Int)))], [], (vI ((j + 1 : Nat) : Int)), [], []⟩, .a] ⟨StepOK.p rfl rfl rfl (OpOK.add rfl rfl rfl (by rw [IntWalk.i64_in _ ⟨by omega, by omega⟩]; omega)), trivial⟩ [(3, (.ref 1003 0)), (4, (.ref 1004 0)), (7, a'17), (10, a'7), (11, (vI ((l.length : Nat) : Int))), (12, (vI ((j + 1 : Nat) : Int)))] [(2000, a'18), (1003, a'8), (1004, a'9)] (by kernel_rfl) (by kernel_rfl) ?_
    refine nextQ_normal ⟨_, ?_, (j + 1), (by rw [namesV_2 (by assumption) (by assumption)] <;> rfl), (by omega), rfl⟩
    · omega
 ·skip
  replace hc2 := of_decide_eq_false hc2
  refine AWp.weaken (mk [(7, a'10)] [(2000, a'11)]) (Weak.sub' hGk (by kernel_rfl)) ?_
  refine AWp.exit ?_
  refine nextQ_exit ?_
  refine nextQ_exit ?_
  refine blockQ_exit ?_
  refine nextQ_normal ?_
  refine AWp.s_reg hGn hGk (aa 2) (Man.aa _ _) [(6, a'10)] [(2000, a'11)] (by kernel_rfl) (by kernel_rfl) ?_
  refine AWp.weaken (mk [(6, (.p (.sl false 1 ((namesV c b l j).map D.cStr))))] []) (Weak.freeze (n := 2000) (es := 1) (rows := ((namesV c b l j).map D.cStr)) (by rw [hGk]; decide) ⟨rfl, .own, trivial⟩ trivial) ?_
  refine AWp.ret ?_
  refine fin_of (.inr rfl) (v := (.p (.sl false 1 ((namesV c b l j).map D.cStr)))) (Res.tmp rfl rfl) (h' := []) rfl rfl ?_
  exact ⟨by rw [show l.length = j from by omega], rfl⟩
theorem pol_line (ws : List ByteArray) (t : ByteArray) (h0 : 1 ≤ ws.length) (hz : (joinS ws).size ≤ 1000) (ht : t.size ≤ 100000) :
    SpecIs Tryz.prog 59 [(.own 5050 ((ws.map D.cStr).length)), (.ref 1007 0)] [(5050, (.arr 1 (ws.map D.cStr))), (1007, (.box [(vS t)]))] (.tup []) [(5050, (.arr 1 (ws.map D.cStr))), (1007, (.box [(vS (t ++ lnOf ws))]))] := by
 refine Spec.intro Tryz.func59 rfl (by kernel_rfl) ?_
 intro Γ hGn hGk
 replace hGn : Γ.n = 8 := hGn
 replace hGk : Γ.names = [5050, 1007] := hGk
 refine AWp.weaken (mk [(0, (.own 5050 ((ws.map D.cStr).length))), (1, (.ref 1007 0))] [(5050, (.arr 1 (ws.map D.cStr))), (1007, (.box [(vS t)]))]) (Weak.sub' hGk (by kernel_rfl)) ?_
 refine AWp.dreg' hGn hGk (by kernel_rfl) [.a, .a, .m (some 5) ⟨[(4, (.own 5050 ((ws.map D.cStr).length)))], [(5050, (.arr 1 (ws.map D.cStr)))], (vS (joinS ws)), [(5050, (.arr 1 (ws.map D.cStr)))], []⟩, .m (some 6) ⟨[(5, (vS (joinS ws)))], [], (vS ((joinS ws) ++ (ByteArray.mk #[10]))), [], []⟩, .m (some 7) ⟨[(3, (vS t)), (6, (vS ((joinS ws) ++ (ByteArray.mk #[10]))))], [], (vS (t ++ ((joinS ws) ++ (ByteArray.mk #[10])))), [], []⟩, .a] ⟨StepOK.p rfl rfl rfl (OpOK.call rfl (by kernel_rfl) rfl (kit_Join 5050 ws (by omega) (by omega)) (by kernel_rfl)),
  StepOK.p rfl rfl rfl (OpOK.addS rfl rfl rfl (sz_le (m := 1000) (n := 1) hz (show ByteArray.size (ByteArray.mk #[10]) ≤ 1 from Nat.le_refl _) rfl) rfl),
  StepOK.p rfl rfl rfl (OpOK.addS rfl rfl rfl (sz_le (m := 100000) (n := 1001) ht (sz_app hz (show ByteArray.size (ByteArray.mk #[10]) ≤ 1 from Nat.le_refl _)) rfl) rfl), trivial⟩ [] [(5050, (.arr 1 (ws.map D.cStr))), (1007, (.box [(vS (t ++ ((joinS ws) ++ (ByteArray.mk #[10]))))]))] (by kernel_rfl) (by kernel_rfl) (by kernel_rfl) ?_
 refine fin_of (.inl rfl) (v := (.tup [])) (Res.many (by kernel_rfl) Res1s.nil) (h' := [(5050, (.arr 1 (ws.map D.cStr))), (1007, (.box [(vS (t ++ ((joinS ws) ++ (ByteArray.mk #[10]))))]))]) rfl rfl ?_
 exact ⟨rfl, rfl⟩
theorem pol_Format (c : D.Config) (b : D.Book) (h : CfgOK c) (hb : BookV b) (hv : bookErr 4 2 b = 0) :
    SpecIs Tryz.prog 32 [(.agg [(.p (.sl false 3 (c.Zones.map D.Zone.cells))), (.p (.sl false 6 (c.People.map D.Person.cells))), (.p (.sl false 3 (c.Calendars.map D.Calendar.cells))), (.p (.sl false 3 (c.Schedules.map D.Schedule.cells)))]), (.agg [(.p (.sl false 2 (b.Teams.map D.Team.cells))), (.p (.sl false 3 (b.Policies.map D.Policy.cells)))])] [] (.tup [(vS (bookX c b)), (vI 0)]) [] := by
 refine Spec.intro Tryz.func32 rfl (by kernel_rfl) ?_
 intro Γ hGn hGk
 replace hGn : Γ.n = 97 := hGn
 replace hGk : Γ.names = [] := hGk
 have hpl := h.plen
 have hsl := h.slen
 have htl := hb.tlen
 have hpp := hb.plen
 let a'1 : AV := (.p (.sl false 3 (c.Zones.map D.Zone.cells)))
 let a'2 : AV := (.p (.sl false 6 (c.People.map D.Person.cells)))
 let a'3 : AV := (.p (.sl false 3 (c.Calendars.map D.Calendar.cells)))
 let a'4 : AV := (.p (.sl false 3 (c.Schedules.map D.Schedule.cells)))
 let a'5 : AV := (.agg [a'1, a'2, a'3, a'4])
 let a'6 : AV := (.p (.sl false 2 (b.Teams.map D.Team.cells)))
 let a'7 : AV := (.p (.sl false 3 (b.Policies.map D.Policy.cells)))
 let a'8 : AV := (.agg [a'6, a'7])
 refine AWp.weaken (mk [(0, a'5), (1, a'8)] []) (Weak.sub' hGk (by kernel_rfl)) ?_
 let a'9 : AO := (.box [a'1, a'2, a'3, a'4])
 let a'10 : AO := (.box [a'6, a'7])
 refine AWp.s_reg hGn hGk (aa 4) (Man.aa _ _) [(2, (.ref 1002 0)), (3, (.ref 1003 0))] [(1002, a'9), (1003, a'10)] (by kernel_rfl) (by kernel_rfl) ?_
 refine AWp.seq ?_
 refine AWp.s_reg hGn hGk [.a, .a, .m (some 21) ⟨[(19, a'5), (20, a'8)], [], (vI 0), [], []⟩, .a] ⟨StepOK.p rfl rfl rfl (OpOK.call rfl (by kernel_rfl) rfl (by have h' := pol_Check c b (by rw [h.plen]; decide) (by rw [h.slen]; decide) hb.memle (res_Check c h); rw [h.plen, h.slen, hv] at h'; exact h') (by kernel_rfl)), trivial⟩ [(2, (.ref 1002 0)), (3, (.ref 1003 0)), (6, (vI 0))] [(1002, a'9), (1003, a'10)] (by kernel_rfl) (by kernel_rfl) ?_
 refine AWp.s_reg hGn hGk (aa 2) (Man.aa _ _) [(2, (.ref 1002 0)), (3, (.ref 1003 0)), (6, (vI 0)), (23, (vB false))] [(1002, a'9), (1003, a'10)] (by kernel_rfl) (by kernel_rfl) ?_
 refine AWp.cond_false rfl ?_
 refine AWp.skip ?_
 refine nextQ_normal ?_
 refine AWp.s_reg hGn hGk (aa 2) (Man.aa _ _) [(2, (.ref 1002 0)), (3, (.ref 1003 0)), (7, (.ref 1007 0))] [(1002, a'9), (1003, a'10), (1007, (.box [(vS (ByteArray.mk #[]))]))] (by kernel_rfl) (by kernel_rfl) ?_
 let a'11 : AV := (.clo (.func 59) [] [(.ref 1007 0)])
 refine AWp.s_reg hGn hGk (aa 2) (Man.aa _ _) [(2, (.ref 1002 0)), (3, (.ref 1003 0)), (7, (.ref 1007 0)), (8, a'11)] [(1002, a'9), (1003, a'10), (1007, (.box [(vS (ByteArray.mk #[]))]))] (by kernel_rfl) (by kernel_rfl) ?_
 refine AWp.seq ?_
 refine AWp.s_reg hGn hGk [.a, .a, .m (some 28) ⟨[(27, a'6)], [], (vI ((b.Teams.length : Nat) : Int)), [], []⟩, .a] ⟨StepOK.p rfl rfl rfl (OpOK.lenP (e := 111) rfl rfl (by kernel_rfl) rfl (by rw [List.length_map])), trivial⟩ [(2, (.ref 1002 0)), (3, (.ref 1003 0)), (7, (.ref 1007 0)), (8, a'11), (27, a'6), (28, (vI ((b.Teams.length : Nat) : Int))), (29, (vI 0))] [(1002, a'9), (1003, a'10), (1007, (.box [(vS (ByteArray.mk #[]))]))] (by kernel_rfl) (by kernel_rfl) ?_
 refine AWp.block ?_
 refine AWp.loop (fun m s => ∃ i, s = (mk [(2, (.ref 1002 0)), (3, (.ref 1003 0)), (7, (.ref 1007 0)), (8, (.clo (.func 59) [] [(.ref 1007 0)])), (27, (.p (.sl false 2 (b.Teams.map D.Team.cells)))), (28, (vI ((b.Teams.length : Nat) : Int))), (29, (vI ((i : Nat) : Int)))] [(1002, (.box [(.p (.sl false 3 (c.Zones.map D.Zone.cells))), (.p (.sl false 6 (c.People.map D.Person.cells))), (.p (.sl false 3 (c.Calendars.map D.Calendar.cells))), (.p (.sl false 3 (c.Schedules.map D.Schedule.cells)))])), (1003, (.box [(.p (.sl false 2 (b.Teams.map D.Team.cells))), (.p (.sl false 3 (b.Policies.map D.Policy.cells)))])), (1007, (.box [(vS (teamsX c b i))]))]) ∧ (i ≤ b.Teams.length) ∧ m = (b.Teams.length - i))
  ⟨_, 0, rfl, (by omega), rfl⟩ ?_
 rintro mm1 s ⟨i, rfl, hi, hmm1⟩
 refine AWp.s_reg hGn hGk (aa 1) (Man.aa _ _) [(2, (.ref 1002 0)), (3, (.ref 1003 0)), (7, (.ref 1007 0)), (8, a'11), (27, a'6), (28, (vI ((b.Teams.length : Nat) : Int))), (29, (vI ((i : Nat) : Int))), (30, (vB (decide (((i : Nat) : Int) < ((b.Teams.length : Nat) : Int)))))] [(1002, a'9), (1003, a'10), (1007, (.box [(vS (teamsX c b i))]))] (by kernel_rfl) (by kernel_rfl) ?_
 refine AWp.seq ?_
 refine AWp.cond (decide (((i : Nat) : Int) < ((b.Teams.length : Nat) : Int))) rfl (fun hc2 => ?_) (fun hc2 => ?_)
 ·skip
  replace hc2 := of_decide_eq_true hc2
  refine AWp.skip ?_
  refine nextQ_normal ?_
  refine AWp.seq ?_
  refine AWp.block ?_
  let a'12 : AV := (.p (.sl false 1 (((nth b.Teams i).Members).map D.cInt)))
  refine AWp.s_reg hGn hGk [.m (some 31) ⟨[(27, a'6), (29, (vI ((i : Nat) : Int)))], [], (.eptr [(pS ((nth b.Teams i).Name)), (.sl false 1 (((nth b.Teams i).Members).map D.cInt))]), [], []⟩, .a, .a, .a] ⟨StepOK.p rfl rfl rfl (OpOK.indexP (e := 111) rfl (by kernel_rfl) (by kernel_rfl) rfl rfl rfl (map_nth (by omega))), trivial⟩ [(2, (.ref 1002 0)), (3, (.ref 1003 0)), (7, (.ref 1007 0)), (8, a'11), (10, (.ref 1010 0)), (27, a'6), (28, (vI ((b.Teams.length : Nat) : Int))), (29, (vI ((i : Nat) : Int)))] [(1002, a'9), (1003, a'10), (1007, (.box [(vS (teamsX c b i))])), (1010, (.box [(vS ((nth b.Teams i).Name)), a'12]))] (by kernel_rfl) (by kernel_rfl) ?_
  let a'13 : AO := (.arr 1 [[(pS (ByteArray.mk #[116, 101, 97, 109]))], [(pS ((nth b.Teams i).Name))]])
  refine AWp.s_reg hGn hGk [.a, .a, .m (some 35) ⟨[(34, (vS ((nth b.Teams i).Name)))], [], (.own 5050 2), [(5050, a'13)], [5050]⟩, .a] ⟨StepOK.p rfl rfl rfl (OpOK.buildOwn (e := 9) (zr := [(pS (ByteArray.mk #[]))]) rfl (by kernel_rfl) (by kernel_rfl) (by kernel_rfl) (by kernel_rfl) rfl (by kernel_rfl) rfl rfl), trivial⟩ [(2, (.ref 1002 0)), (3, (.ref 1003 0)), (7, (.ref 1007 0)), (8, a'11), (10, (.ref 1010 0)), (11, (.own 5050 2)), (27, a'6), (28, (vI ((b.Teams.length : Nat) : Int))), (29, (vI ((i : Nat) : Int)))] [(1002, a'9), (1003, a'10), (1007, (.box [(vS (teamsX c b i))])), (1010, (.box [(vS ((nth b.Teams i).Name)), a'12])), (5050, a'13)] (by kernel_rfl) (by kernel_rfl) ?_
  refine AWp.seq ?_
  refine AWp.s_reg hGn hGk [.a, .a, .m (some 38) ⟨[(37, a'12)], [], (vI ((((nth b.Teams i).Members).length : Nat) : Int)), [], []⟩, .a] ⟨StepOK.p rfl rfl rfl (OpOK.lenP (e := 3) rfl rfl (by kernel_rfl) rfl (by rw [List.length_map])), trivial⟩ [(2, (.ref 1002 0)), (3, (.ref 1003 0)), (7, (.ref 1007 0)), (8, a'11), (11, (.own 5050 2)), (27, a'6), (28, (vI ((b.Teams.length : Nat) : Int))), (29, (vI ((i : Nat) : Int))), (37, a'12), (38, (vI ((((nth b.Teams i).Members).length : Nat) : Int))), (39, (vI 0))] [(1002, a'9), (1003, a'10), (1007, (.box [(vS (teamsX c b i))])), (5050, a'13)] (by kernel_rfl) (by kernel_rfl) ?_
  refine AWp.block ?_
  refine AWp.loop (fun m s => ∃ j, s = (mk [(2, (.ref 1002 0)), (3, (.ref 1003 0)), (7, (.ref 1007 0)), (8, (.clo (.func 59) [] [(.ref 1007 0)])), (11, (.own 5050 (((teamV c (nth b.Teams i) j).map D.cStr).length))), (27, (.p (.sl false 2 (b.Teams.map D.Team.cells)))), (28, (vI ((b.Teams.length : Nat) : Int))), (29, (vI ((i : Nat) : Int))), (37, (.p (.sl false 1 (((nth b.Teams i).Members).map D.cInt)))), (38, (vI ((((nth b.Teams i).Members).length : Nat) : Int))), (39, (vI ((j : Nat) : Int)))] [(1002, (.box [(.p (.sl false 3 (c.Zones.map D.Zone.cells))), (.p (.sl false 6 (c.People.map D.Person.cells))), (.p (.sl false 3 (c.Calendars.map D.Calendar.cells))), (.p (.sl false 3 (c.Schedules.map D.Schedule.cells)))])), (1003, (.box [(.p (.sl false 2 (b.Teams.map D.Team.cells))), (.p (.sl false 3 (b.Policies.map D.Policy.cells)))])), (1007, (.box [(vS (teamsX c b i))])), (5050, (.arr 1 ((teamV c (nth b.Teams i) j).map D.cStr)))]) ∧ (j ≤ (nth b.Teams i).Members.length) ∧ m = ((nth b.Teams i).Members.length - j))
   ⟨_, 0, rfl, (by omega), rfl⟩ ?_
  rintro mm3 s ⟨j, rfl, hj, hmm3⟩
  have htl := teamV_len c (nth b.Teams i) j
  have hml := hb.mlen i (by omega)
  let a'14 : AV := (.own 5050 (((teamV c (nth b.Teams i) j).map D.cStr).length))
  let a'15 : AO := (.arr 1 ((teamV c (nth b.Teams i) j).map D.cStr))
  refine AWp.s_reg hGn hGk (aa 1) (Man.aa _ _) [(2, (.ref 1002 0)), (3, (.ref 1003 0)), (7, (.ref 1007 0)), (8, a'11), (11, a'14), (27, a'6), (28, (vI ((b.Teams.length : Nat) : Int))), (29, (vI ((i : Nat) : Int))), (37, a'12), (38, (vI ((((nth b.Teams i).Members).length : Nat) : Int))), (39, (vI ((j : Nat) : Int))), (40, (vB (decide (((j : Nat) : Int) < ((((nth b.Teams i).Members).length : Nat) : Int)))))] [(1002, a'9), (1003, a'10), (1007, (.box [(vS (teamsX c b i))])), (5050, a'15)] (by kernel_rfl) (by kernel_rfl) ?_
  refine AWp.seq ?_
  refine AWp.cond (decide (((j : Nat) : Int) < ((((nth b.Teams i).Members).length : Nat) : Int))) rfl (fun hc4 => ?_) (fun hc4 => ?_)
  ·skip
   replace hc4 := of_decide_eq_true hc4
   refine AWp.skip ?_
   refine nextQ_normal ?_
   refine AWp.seq ?_
   refine AWp.block ?_
   refine AWp.s_reg hGn hGk [.m (some 41) ⟨[(37, a'12), (39, (vI ((j : Nat) : Int)))], [], (.eptr [(pI (nth ((nth b.Teams i).Members) j))]), [], []⟩, .a, .a] ⟨StepOK.p rfl rfl rfl (OpOK.indexP (e := 3) rfl (by kernel_rfl) (by kernel_rfl) rfl rfl rfl (map_nth (by omega))), trivial⟩ [(2, (.ref 1002 0)), (3, (.ref 1003 0)), (7, (.ref 1007 0)), (8, a'11), (11, a'14), (13, (vI (nth ((nth b.Teams i).Members) j))), (27, a'6), (28, (vI ((b.Teams.length : Nat) : Int))), (29, (vI ((i : Nat) : Int))), (37, a'12), (38, (vI ((((nth b.Teams i).Members).length : Nat) : Int))), (39, (vI ((j : Nat) : Int)))] [(1002, a'9), (1003, a'10), (1007, (.box [(vS (teamsX c b i))])), (5050, a'15)] (by kernel_rfl) (by kernel_rfl) ?_
   have hmm := hb.mem i (by omega) j (by omega)
   let a'16 : AV := (.own 5050 ((((teamV c (nth b.Teams i) j) ++ [(nth c.People (((nth ((nth b.Teams i).Members) j)).toNat)).Name]).map D.cStr).length))
   let a'17 : AO := (.arr 1 (((teamV c (nth b.Teams i) j) ++ [(nth c.People (((nth ((nth b.Teams i).Members) j)).toNat)).Name]).map D.cStr))
   refine AWp.reg' hGn hGk [.a, .a, .a, .a, .m (some 47) ⟨[(45, a'2), (46, (vI (nth ((nth b.Teams i).Members) j)))], [], (.eptr [(pS ((nth c.People (((nth ((nth b.Teams i).Members) j)).toNat)).Name)), (pI ((nth c.People (((nth ((nth b.Teams i).Members) j)).toNat)).Zone)), (.sl false 2 (((nth c.People (((nth ((nth b.Teams i).Members) j)).toNat)).Quiet).map D.Window.cells)), (pI ((nth c.People (((nth ((nth b.Teams i).Members) j)).toNat)).MaxWeek)), (pI ((nth c.People (((nth ((nth b.Teams i).Members) j)).toNat)).MinRest)), (pB ((nth c.People (((nth ((nth b.Teams i).Members) j)).toNat)).Consent))]), [], []⟩, .a, .a, .a, .m (some 51) ⟨[(43, a'14), (50, (.p (.sl true 1 [[(pS ((nth c.People (((nth ((nth b.Teams i).Members) j)).toNat)).Name))]])))], [(5050, a'15)], a'16, [(5050, a'17)], []⟩, .a] ⟨StepOK.p rfl rfl rfl (OpOK.indexP (e := 75) rfl (by kernel_rfl) (by kernel_rfl) rfl rfl (by omega) (map_nth (by omega))),
    StepOK.p rfl rfl rfl (OpOK.appendOwn (e := 9) (bytes := 16) rfl rfl (by kernel_rfl) (by kernel_rfl) rfl (Nat.beq_refl _) rfl (by rw [List.map_append]; rfl) rfl (by simp only [List.length_map, List.length_cons, List.length_nil]; omega) (by simp only [List.length_map, List.length_cons, List.length_nil]; omega)), trivial⟩ [(2, (.ref 1002 0)), (3, (.ref 1003 0)), (7, (.ref 1007 0)), (8, a'11), (11, a'16), (27, a'6), (28, (vI ((b.Teams.length : Nat) : Int))), (29, (vI ((i : Nat) : Int))), (37, a'12), (38, (vI ((((nth b.Teams i).Members).length : Nat) : Int))), (39, (vI ((j : Nat) : Int)))] [(1002, a'9), (1003, a'10), (1007, (.box [(vS (teamsX c b i))])), (5050, a'17)] (by kernel_rfl) (by kernel_rfl) ?_
   refine blockQ_normal ?_
   refine nextQ_normal ?_
   refine AWp.reg' hGn hGk [.m (some 52) ⟨[(39, (vI ((j : Nat) : Int)))], [], (vI ((j + 1 : Nat) : Int)), [], []⟩, .a] ⟨StepOK.p rfl rfl rfl (OpOK.add rfl rfl rfl (by rw [IntWalk.i64_in _ ⟨by omega, by omega⟩]; omega)), trivial⟩ [(2, (.ref 1002 0)), (3, (.ref 1003 0)), (7, (.ref 1007 0)), (8, a'11), (11, a'16), (27, a'6), (28, (vI ((b.Teams.length : Nat) : Int))), (29, (vI ((i : Nat) : Int))), (37, a'12), (38, (vI ((((nth b.Teams i).Members).length : Nat) : Int))), (39, (vI ((j + 1 : Nat) : Int)))] [(1002, a'9), (1003, a'10), (1007, (.box [(vS (teamsX c b i))])), (5050, a'17)] (by kernel_rfl) (by kernel_rfl) ?_
   refine nextQ_normal ⟨_, ?_, (j + 1), rfl, (by omega), rfl⟩
   · omega
  ·skip
   replace hc4 := of_decide_eq_false hc4
   refine AWp.weaken (mk [(2, (.ref 1002 0)), (3, (.ref 1003 0)), (7, (.ref 1007 0)), (8, a'11), (11, a'14), (27, a'6), (28, (vI ((b.Teams.length : Nat) : Int))), (29, (vI ((i : Nat) : Int)))] [(1002, a'9), (1003, a'10), (1007, (.box [(vS (teamsX c b i))])), (5050, a'15)]) (Weak.sub' hGk (by kernel_rfl)) ?_
   refine AWp.exit ?_
   refine nextQ_exit ?_
   refine nextQ_exit ?_
   refine blockQ_exit ?_
   refine nextQ_normal ?_
   let a'18 : AO := (.box [(vS ((teamsX c b i) ++ lnOf (teamV c (nth b.Teams i) j)))])
   refine AWp.reg' hGn hGk [.a, .a, .m (some 55) ⟨[(53, a'11), (54, a'14)], [(5050, a'15), (1007, (.box [(vS (teamsX c b i))]))], (.tup []), [(5050, a'15), (1007, a'18)], []⟩] ⟨StepOK.p rfl rfl rfl (OpOK.callClo rfl rfl (by kernel_rfl) rfl (pol_line (teamV c (nth b.Teams i) j) (teamsX c b i) (by omega) (joinTeam h hb (by omega) (by omega)) (textTeams h hb (by omega))) (by kernel_rfl)), trivial⟩ [(2, (.ref 1002 0)), (3, (.ref 1003 0)), (7, (.ref 1007 0)), (8, a'11), (27, a'6), (28, (vI ((b.Teams.length : Nat) : Int))), (29, (vI ((i : Nat) : Int)))] [(1002, a'9), (1003, a'10), (1007, a'18)] (by kernel_rfl) (by kernel_rfl) ?_
   refine blockQ_normal ?_
   refine nextQ_normal ?_
   refine AWp.reg' hGn hGk [.m (some 56) ⟨[(29, (vI ((i : Nat) : Int)))], [], (vI ((i + 1 : Nat) : Int)), [], []⟩, .a] ⟨StepOK.p rfl rfl rfl (OpOK.add rfl rfl rfl (by rw [IntWalk.i64_in _ ⟨by omega, by omega⟩]; omega)), trivial⟩ [(2, (.ref 1002 0)), (3, (.ref 1003 0)), (7, (.ref 1007 0)), (8, a'11), (27, a'6), (28, (vI ((b.Teams.length : Nat) : Int))), (29, (vI ((i + 1 : Nat) : Int)))] [(1002, a'9), (1003, a'10), (1007, a'18)] (by kernel_rfl) (by kernel_rfl) ?_
   refine nextQ_normal ⟨_, ?_, (i + 1), (by have hje : j = (nth b.Teams i).Members.length := (by omega); subst hje; rfl), (by omega), rfl⟩
   · omega
 ·skip
  replace hc2 := of_decide_eq_false hc2
  refine AWp.weaken (mk [(2, (.ref 1002 0)), (3, (.ref 1003 0)), (7, (.ref 1007 0)), (8, a'11)] [(1002, a'9), (1003, a'10), (1007, (.box [(vS (teamsX c b i))]))]) (Weak.sub' hGk (by kernel_rfl)) ?_
  refine AWp.exit ?_
  refine nextQ_exit ?_
  refine nextQ_exit ?_
  refine blockQ_exit ?_
  refine nextQ_normal ?_
  refine AWp.seq ?_
  refine AWp.s_reg hGn hGk [.a, .a, .m (some 59) ⟨[(58, a'7)], [], (vI ((b.Policies.length : Nat) : Int)), [], []⟩, .a] ⟨StepOK.p rfl rfl rfl (OpOK.lenP (e := 106) rfl rfl (by kernel_rfl) rfl (by rw [List.length_map])), trivial⟩ [(2, (.ref 1002 0)), (3, (.ref 1003 0)), (7, (.ref 1007 0)), (8, a'11), (58, a'7), (59, (vI ((b.Policies.length : Nat) : Int))), (60, (vI 0))] [(1002, a'9), (1003, a'10), (1007, (.box [(vS (teamsX c b i))]))] (by kernel_rfl) (by kernel_rfl) ?_
  refine AWp.block ?_
  refine AWp.loop (fun m s => ∃ i2, s = (mk [(2, (.ref 1002 0)), (3, (.ref 1003 0)), (7, (.ref 1007 0)), (8, (.clo (.func 59) [] [(.ref 1007 0)])), (58, (.p (.sl false 3 (b.Policies.map D.Policy.cells)))), (59, (vI ((b.Policies.length : Nat) : Int))), (60, (vI ((i2 : Nat) : Int)))] [(1002, (.box [(.p (.sl false 3 (c.Zones.map D.Zone.cells))), (.p (.sl false 6 (c.People.map D.Person.cells))), (.p (.sl false 3 (c.Calendars.map D.Calendar.cells))), (.p (.sl false 3 (c.Schedules.map D.Schedule.cells)))])), (1003, (.box [(.p (.sl false 2 (b.Teams.map D.Team.cells))), (.p (.sl false 3 (b.Policies.map D.Policy.cells)))])), (1007, (.box [(vS (polsX c b i2))]))]) ∧ (i2 ≤ b.Policies.length) ∧ m = (b.Policies.length - i2))
   ⟨_, 0, (by have hie : i = b.Teams.length := (by omega); subst hie; rfl), (by omega), rfl⟩ ?_
  rintro mm5 s ⟨i2, rfl, hi2, hmm5⟩
  refine AWp.s_reg hGn hGk (aa 1) (Man.aa _ _) [(2, (.ref 1002 0)), (3, (.ref 1003 0)), (7, (.ref 1007 0)), (8, a'11), (58, a'7), (59, (vI ((b.Policies.length : Nat) : Int))), (60, (vI ((i2 : Nat) : Int))), (61, (vB (decide (((i2 : Nat) : Int) < ((b.Policies.length : Nat) : Int)))))] [(1002, a'9), (1003, a'10), (1007, (.box [(vS (polsX c b i2))]))] (by kernel_rfl) (by kernel_rfl) ?_
  refine AWp.seq ?_
  refine AWp.cond (decide (((i2 : Nat) : Int) < ((b.Policies.length : Nat) : Int))) rfl (fun hc6 => ?_) (fun hc6 => ?_)
  ·skip
   replace hc6 := of_decide_eq_true hc6
   refine AWp.skip ?_
   refine nextQ_normal ?_
   refine AWp.seq ?_
   refine AWp.block ?_
   let a'19 : AV := (.p (.sl false 3 (((nth b.Policies i2).Steps).map D.PolicyStep.cells)))
   refine AWp.s_reg hGn hGk [.m (some 62) ⟨[(58, a'7), (60, (vI ((i2 : Nat) : Int)))], [], (.eptr [(pS ((nth b.Policies i2).Name)), (.sl false 3 (((nth b.Policies i2).Steps).map D.PolicyStep.cells)), (pI ((nth b.Policies i2).Repeat))]), [], []⟩, .a, .a, .a] ⟨StepOK.p rfl rfl rfl (OpOK.indexP (e := 106) rfl (by kernel_rfl) (by kernel_rfl) rfl rfl rfl (map_nth (by omega))), trivial⟩ [(2, (.ref 1002 0)), (3, (.ref 1003 0)), (7, (.ref 1007 0)), (8, a'11), (15, (.ref 1015 0)), (58, a'7), (59, (vI ((b.Policies.length : Nat) : Int))), (60, (vI ((i2 : Nat) : Int)))] [(1002, a'9), (1003, a'10), (1007, (.box [(vS (polsX c b i2))])), (1015, (.box [(vS ((nth b.Policies i2).Name)), a'19, (vI ((nth b.Policies i2).Repeat))]))] (by kernel_rfl) (by kernel_rfl) ?_
   have hrr := hb.rep i2 (by omega)
   have hss := hb.slen i2 (by omega)
   let a'20 : AO := (.arr 1 [[(pS (ByteArray.mk #[112, 111, 108, 105, 99, 121]))], [(pS ((nth b.Policies i2).Name))], [(pS (itoaB ((nth b.Policies i2).Repeat)))]])
   let a'21 : AO := (.box [(vS ((polsX c b i2) ++ lnOf [(ByteArray.mk #[112, 111, 108, 105, 99, 121]), (nth b.Policies i2).Name, itoaB ((nth b.Policies i2).Repeat)]))])
   refine AWp.s_dreg hGn hGk (by kernel_rfl) [.a, .a, .a, .a, .a, .m (some 69) ⟨[(68, (vI ((nth b.Policies i2).Repeat)))], [], (vS (itoaB ((nth b.Policies i2).Repeat))), [], []⟩, .m (some 70) ⟨[(66, (vS ((nth b.Policies i2).Name))), (69, (vS (itoaB ((nth b.Policies i2).Repeat))))], [], (.own 5050 3), [(5050, a'20)], [5050]⟩, .m (some 71) ⟨[(64, a'11), (70, (.own 5050 3))], [(5050, a'20), (1007, (.box [(vS (polsX c b i2))]))], (.tup []), [(5050, a'20), (1007, a'21)], []⟩] ⟨StepOK.p rfl rfl rfl (OpOK.call rfl (by kernel_rfl) rfl (kit_Itoa ((nth b.Policies i2).Repeat) (by omega) (by omega)) (by kernel_rfl)),
    StepOK.p rfl rfl rfl (OpOK.buildOwn (e := 9) (zr := [(pS (ByteArray.mk #[]))]) rfl (by kernel_rfl) (by kernel_rfl) (by kernel_rfl) (by kernel_rfl) rfl (by kernel_rfl) rfl rfl),
    StepOK.p rfl rfl rfl (OpOK.callClo rfl rfl (by kernel_rfl) rfl (pol_line [(ByteArray.mk #[112, 111, 108, 105, 99, 121]), (nth b.Policies i2).Name, itoaB ((nth b.Policies i2).Repeat)] (polsX c b i2) (by simp only [List.length_cons]; omega) (joinPol (p := (nth b.Policies i2)) (hb.pname i2 (by omega)) hrr) (textPols h hb (by omega))) (by kernel_rfl)), trivial⟩ [(2, (.ref 1002 0)), (3, (.ref 1003 0)), (7, (.ref 1007 0)), (8, a'11), (15, (.ref 1015 0)), (58, a'7), (59, (vI ((b.Policies.length : Nat) : Int))), (60, (vI ((i2 : Nat) : Int)))] [(1002, a'9), (1003, a'10), (1007, a'21), (1015, (.box [(vS ((nth b.Policies i2).Name)), a'19, (vI ((nth b.Policies i2).Repeat))]))] (by kernel_rfl) (by kernel_rfl) (by kernel_rfl) ?_
   refine AWp.s_reg hGn hGk [.a, .a, .m (some 74) ⟨[(73, a'19)], [], (vI ((((nth b.Policies i2).Steps).length : Nat) : Int)), [], []⟩, .a] ⟨StepOK.p rfl rfl rfl (OpOK.lenP (e := 103) rfl rfl (by kernel_rfl) rfl (by rw [List.length_map])), trivial⟩ [(2, (.ref 1002 0)), (3, (.ref 1003 0)), (7, (.ref 1007 0)), (8, a'11), (58, a'7), (59, (vI ((b.Policies.length : Nat) : Int))), (60, (vI ((i2 : Nat) : Int))), (73, a'19), (74, (vI ((((nth b.Policies i2).Steps).length : Nat) : Int))), (75, (vI 0))] [(1002, a'9), (1003, a'10), (1007, a'21)] (by kernel_rfl) (by kernel_rfl) ?_
   refine AWp.block ?_
   refine AWp.loop (fun m s => ∃ k, s = (mk [(2, (.ref 1002 0)), (3, (.ref 1003 0)), (7, (.ref 1007 0)), (8, (.clo (.func 59) [] [(.ref 1007 0)])), (58, (.p (.sl false 3 (b.Policies.map D.Policy.cells)))), (59, (vI ((b.Policies.length : Nat) : Int))), (60, (vI ((i2 : Nat) : Int))), (73, (.p (.sl false 3 (((nth b.Policies i2).Steps).map D.PolicyStep.cells)))), (74, (vI ((((nth b.Policies i2).Steps).length : Nat) : Int))), (75, (vI ((k : Nat) : Int)))] [(1002, (.box [(.p (.sl false 3 (c.Zones.map D.Zone.cells))), (.p (.sl false 6 (c.People.map D.Person.cells))), (.p (.sl false 3 (c.Calendars.map D.Calendar.cells))), (.p (.sl false 3 (c.Schedules.map D.Schedule.cells)))])), (1003, (.box [(.p (.sl false 2 (b.Teams.map D.Team.cells))), (.p (.sl false 3 (b.Policies.map D.Policy.cells)))])), (1007, (.box [(vS (polX c b (polsX c b i2) (nth b.Policies i2) k))]))]) ∧ (k ≤ (nth b.Policies i2).Steps.length) ∧ m = ((nth b.Policies i2).Steps.length - k))
    ⟨_, 0, rfl, (by omega), rfl⟩ ?_
   rintro mm7 s ⟨k, rfl, hk, hmm7⟩
   let a'22 : AO := (.box [(vS (polX c b (polsX c b i2) (nth b.Policies i2) k))])
   refine AWp.s_reg hGn hGk (aa 1) (Man.aa _ _) [(2, (.ref 1002 0)), (3, (.ref 1003 0)), (7, (.ref 1007 0)), (8, a'11), (58, a'7), (59, (vI ((b.Policies.length : Nat) : Int))), (60, (vI ((i2 : Nat) : Int))), (73, a'19), (74, (vI ((((nth b.Policies i2).Steps).length : Nat) : Int))), (75, (vI ((k : Nat) : Int))), (76, (vB (decide (((k : Nat) : Int) < ((((nth b.Policies i2).Steps).length : Nat) : Int)))))] [(1002, a'9), (1003, a'10), (1007, a'22)] (by kernel_rfl) (by kernel_rfl) ?_
   refine AWp.seq ?_
   refine AWp.cond (decide (((k : Nat) : Int) < ((((nth b.Policies i2).Steps).length : Nat) : Int))) rfl (fun hc8 => ?_) (fun hc8 => ?_)
   ·skip
    replace hc8 := of_decide_eq_true hc8
    refine AWp.skip ?_
    refine nextQ_normal ?_
    refine AWp.seq ?_
    refine AWp.block ?_
    let a'23 : AV := (.p (.sl false 2 (((nth ((nth b.Policies i2).Steps) k).Targets).map D.Target.cells)))
    let a'24 : AO := (.box [(vI ((nth ((nth b.Policies i2).Steps) k).Wait)), (vB ((nth ((nth b.Policies i2).Steps) k).Urgent)), a'23])
    refine AWp.s_reg hGn hGk [.m (some 77) ⟨[(73, a'19), (75, (vI ((k : Nat) : Int)))], [], (.eptr [(pI ((nth ((nth b.Policies i2).Steps) k).Wait)), (pB ((nth ((nth b.Policies i2).Steps) k).Urgent)), (.sl false 2 (((nth ((nth b.Policies i2).Steps) k).Targets).map D.Target.cells))]), [], []⟩, .a, .a, .a] ⟨StepOK.p rfl rfl rfl (OpOK.indexP (e := 103) rfl (by kernel_rfl) (by kernel_rfl) rfl rfl rfl (map_nth (by omega))), trivial⟩ [(2, (.ref 1002 0)), (3, (.ref 1003 0)), (7, (.ref 1007 0)), (8, a'11), (17, (.ref 1017 0)), (58, a'7), (59, (vI ((b.Policies.length : Nat) : Int))), (60, (vI ((i2 : Nat) : Int))), (73, a'19), (74, (vI ((((nth b.Policies i2).Steps).length : Nat) : Int))), (75, (vI ((k : Nat) : Int)))] [(1002, a'9), (1003, a'10), (1007, a'22), (1017, a'24)] (by kernel_rfl) (by kernel_rfl) ?_
    refine AWp.s_reg hGn hGk (aa 1) (Man.aa _ _) [(2, (.ref 1002 0)), (3, (.ref 1003 0)), (7, (.ref 1007 0)), (8, a'11), (17, (.ref 1017 0)), (18, (vS (ByteArray.mk #[110, 111, 114, 109, 97, 108]))), (58, a'7), (59, (vI ((b.Policies.length : Nat) : Int))), (60, (vI ((i2 : Nat) : Int))), (73, a'19), (74, (vI ((((nth b.Policies i2).Steps).length : Nat) : Int))), (75, (vI ((k : Nat) : Int)))] [(1002, a'9), (1003, a'10), (1007, a'22), (1017, a'24)] (by kernel_rfl) (by kernel_rfl) ?_
    refine AWp.seq ?_
    refine AWp.s_reg hGn hGk (aa 2) (Man.aa _ _) [(2, (.ref 1002 0)), (3, (.ref 1003 0)), (7, (.ref 1007 0)), (8, a'11), (17, (.ref 1017 0)), (18, (vS (ByteArray.mk #[110, 111, 114, 109, 97, 108]))), (58, a'7), (59, (vI ((b.Policies.length : Nat) : Int))), (60, (vI ((i2 : Nat) : Int))), (73, a'19), (74, (vI ((((nth b.Policies i2).Steps).length : Nat) : Int))), (75, (vI ((k : Nat) : Int))), (80, (vB ((nth ((nth b.Policies i2).Steps) k).Urgent)))] [(1002, a'9), (1003, a'10), (1007, a'22), (1017, a'24)] (by kernel_rfl) (by kernel_rfl) ?_
    refine AWp.cond ((nth ((nth b.Policies i2).Steps) k).Urgent) rfl (fun hc9 => ?_) (fun hc9 => ?_)
    ·skip
     refine AWp.reg' hGn hGk (aa 1) (Man.aa _ _) [(2, (.ref 1002 0)), (3, (.ref 1003 0)), (7, (.ref 1007 0)), (8, a'11), (17, (.ref 1017 0)), (18, (vS (ByteArray.mk #[117, 114, 103, 101, 110, 116]))), (58, a'7), (59, (vI ((b.Policies.length : Nat) : Int))), (60, (vI ((i2 : Nat) : Int))), (73, a'19), (74, (vI ((((nth b.Policies i2).Steps).length : Nat) : Int))), (75, (vI ((k : Nat) : Int)))] [(1002, a'9), (1003, a'10), (1007, a'22), (1017, a'24)] (by kernel_rfl) (by kernel_rfl) ?_
     refine nextQ_normal ?_
     have hsv := hb.step i2 (by omega) k (by omega)
     have hww := hsv.wait
     have htt := hsv.tlen
     have hf10 := namesV_len c b ((nth ((nth b.Policies i2).Steps) k).Targets) ((nth ((nth b.Policies i2).Steps) k).Targets).length
     let a'25 : AV := (.p (.sl false 1 ((namesV c b ((nth ((nth b.Policies i2).Steps) k).Targets) ((nth ((nth b.Policies i2).Steps) k).Targets).length).map D.cStr)))
     let a'26 : AV := (.own 5050 (((stepW c b (nth (nth b.Policies i2).Steps k)).map D.cStr).length))
     let a'27 : AO := (.arr 1 ((stepW c b (nth (nth b.Policies i2).Steps k)).map D.cStr))
     let a'28 : AO := (.box [(vS ((polX c b (polsX c b i2) (nth b.Policies i2) k) ++ lnOf (stepW c b (nth (nth b.Policies i2).Steps k))))])
     refine AWp.dreg' hGn hGk (by kernel_rfl) [.a, .a, .a, .m (some 84) ⟨[(83, (vI ((nth ((nth b.Policies i2).Steps) k).Wait)))], [], (vS (itoaB ((nth ((nth b.Policies i2).Steps) k).Wait))), [], []⟩, .a, .m (some 86) ⟨[(84, (vS (itoaB ((nth ((nth b.Policies i2).Steps) k).Wait)))), (85, (vS (ByteArray.mk #[117, 114, 103, 101, 110, 116])))], [], (.own 5050 3), [(5050, (.arr 1 [[(pS (ByteArray.mk #[115, 116, 101, 112]))], [(pS (itoaB ((nth ((nth b.Policies i2).Steps) k).Wait)))], [(pS (ByteArray.mk #[117, 114, 103, 101, 110, 116]))]]))], [5050]⟩, .a, .a, .a, .a, .m (some 91) ⟨[(87, a'5), (88, a'8), (90, a'23)], [], a'25, [], []⟩, .m (some 92) ⟨[(86, (.own 5050 3)), (91, a'25)], [(5050, (.arr 1 [[(pS (ByteArray.mk #[115, 116, 101, 112]))], [(pS (itoaB ((nth ((nth b.Policies i2).Steps) k).Wait)))], [(pS (ByteArray.mk #[117, 114, 103, 101, 110, 116]))]]))], a'26, [(5050, a'27)], []⟩, .m (some 93) ⟨[(81, a'11), (92, a'26)], [(5050, a'27), (1007, a'22)], (.tup []), [(5050, a'27), (1007, a'28)], []⟩] ⟨StepOK.p rfl rfl rfl (OpOK.call rfl (by kernel_rfl) rfl (kit_Itoa ((nth ((nth b.Policies i2).Steps) k).Wait) (by omega) (by omega)) (by kernel_rfl)),
      StepOK.p rfl rfl rfl (OpOK.buildOwn (e := 9) (zr := [(pS (ByteArray.mk #[]))]) rfl (by kernel_rfl) (by kernel_rfl) (by kernel_rfl) (by kernel_rfl) rfl (by kernel_rfl) rfl rfl),
      StepOK.p rfl rfl rfl (OpOK.call rfl (by kernel_rfl) rfl (pol_names c b h hb ((nth ((nth b.Policies i2).Steps) k).Targets) hsv.tlen hsv.tgt) (by kernel_rfl)),
      StepOK.p rfl rfl rfl (OpOK.appendOwn (e := 9) (bytes := 16) rfl rfl (by kernel_rfl) (by kernel_rfl) rfl (Nat.beq_refl _) rfl (by rw [stepW_u (by assumption)] <;> rfl) rfl (by simp only [List.length_map, List.length_cons, List.length_nil, List.length_append, List.length_take, List.length_drop]; omega) (by simp only [List.length_map, List.length_cons, List.length_nil, List.length_append, List.length_take, List.length_drop]; omega)),
      StepOK.p rfl rfl rfl (OpOK.callClo rfl rfl (by kernel_rfl) rfl (pol_line (stepW c b (nth (nth b.Policies i2).Steps k)) (polX c b (polsX c b i2) (nth b.Policies i2) k) (by rw [stepW_len]; omega) (joinStep h hb hsv) (textPol h hb (by omega) (by omega))) (by kernel_rfl)), trivial⟩ [(2, (.ref 1002 0)), (3, (.ref 1003 0)), (7, (.ref 1007 0)), (8, a'11), (58, a'7), (59, (vI ((b.Policies.length : Nat) : Int))), (60, (vI ((i2 : Nat) : Int))), (73, a'19), (74, (vI ((((nth b.Policies i2).Steps).length : Nat) : Int))), (75, (vI ((k : Nat) : Int)))] [(1002, a'9), (1003, a'10), (1007, a'28)] (by kernel_rfl) (by kernel_rfl) (by kernel_rfl) ?_
     refine blockQ_normal ?_
     refine nextQ_normal ?_
     refine AWp.reg' hGn hGk [.m (some 94) ⟨[(75, (vI ((k : Nat) : Int)))], [], (vI ((k + 1 : Nat) : Int)), [], []⟩, .a] ⟨StepOK.p rfl rfl rfl (OpOK.add rfl rfl rfl (by rw [IntWalk.i64_in _ ⟨by omega, by omega⟩]; omega)), trivial⟩ [(2, (.ref 1002 0)), (3, (.ref 1003 0)), (7, (.ref 1007 0)), (8, a'11), (58, a'7), (59, (vI ((b.Policies.length : Nat) : Int))), (60, (vI ((i2 : Nat) : Int))), (73, a'19), (74, (vI ((((nth b.Policies i2).Steps).length : Nat) : Int))), (75, (vI ((k + 1 : Nat) : Int)))] [(1002, a'9), (1003, a'10), (1007, a'28)] (by kernel_rfl) (by kernel_rfl) ?_
     refine nextQ_normal ⟨_, ?_, (k + 1), rfl, (by omega), rfl⟩
     · omega
    ·skip
     refine AWp.skip ?_
     refine nextQ_normal ?_
     have hsv := hb.step i2 (by omega) k (by omega)
     have hww := hsv.wait
     have htt := hsv.tlen
     have hf11 := namesV_len c b ((nth ((nth b.Policies i2).Steps) k).Targets) ((nth ((nth b.Policies i2).Steps) k).Targets).length
     let a'29 : AV := (.p (.sl false 1 ((namesV c b ((nth ((nth b.Policies i2).Steps) k).Targets) ((nth ((nth b.Policies i2).Steps) k).Targets).length).map D.cStr)))
     let a'30 : AV := (.own 5050 (((stepW c b (nth (nth b.Policies i2).Steps k)).map D.cStr).length))
     let a'31 : AO := (.arr 1 ((stepW c b (nth (nth b.Policies i2).Steps k)).map D.cStr))
     let a'32 : AO := (.box [(vS ((polX c b (polsX c b i2) (nth b.Policies i2) k) ++ lnOf (stepW c b (nth (nth b.Policies i2).Steps k))))])
     refine AWp.dreg' hGn hGk (by kernel_rfl) [.a, .a, .a, .m (some 84) ⟨[(83, (vI ((nth ((nth b.Policies i2).Steps) k).Wait)))], [], (vS (itoaB ((nth ((nth b.Policies i2).Steps) k).Wait))), [], []⟩, .a, .m (some 86) ⟨[(84, (vS (itoaB ((nth ((nth b.Policies i2).Steps) k).Wait)))), (85, (vS (ByteArray.mk #[110, 111, 114, 109, 97, 108])))], [], (.own 5050 3), [(5050, (.arr 1 [[(pS (ByteArray.mk #[115, 116, 101, 112]))], [(pS (itoaB ((nth ((nth b.Policies i2).Steps) k).Wait)))], [(pS (ByteArray.mk #[110, 111, 114, 109, 97, 108]))]]))], [5050]⟩, .a, .a, .a, .a, .m (some 91) ⟨[(87, a'5), (88, a'8), (90, a'23)], [], a'29, [], []⟩, .m (some 92) ⟨[(86, (.own 5050 3)), (91, a'29)], [(5050, (.arr 1 [[(pS (ByteArray.mk #[115, 116, 101, 112]))], [(pS (itoaB ((nth ((nth b.Policies i2).Steps) k).Wait)))], [(pS (ByteArray.mk #[110, 111, 114, 109, 97, 108]))]]))], a'30, [(5050, a'31)], []⟩, .m (some 93) ⟨[(81, a'11), (92, a'30)], [(5050, a'31), (1007, a'22)], (.tup []), [(5050, a'31), (1007, a'32)], []⟩] ⟨StepOK.p rfl rfl rfl (OpOK.call rfl (by kernel_rfl) rfl (kit_Itoa ((nth ((nth b.Policies i2).Steps) k).Wait) (by omega) (by omega)) (by kernel_rfl)),
      StepOK.p rfl rfl rfl (OpOK.buildOwn (e := 9) (zr := [(pS (ByteArray.mk #[]))]) rfl (by kernel_rfl) (by kernel_rfl) (by kernel_rfl) (by kernel_rfl) rfl (by kernel_rfl) rfl rfl),
      StepOK.p rfl rfl rfl (OpOK.call rfl (by kernel_rfl) rfl (pol_names c b h hb ((nth ((nth b.Policies i2).Steps) k).Targets) hsv.tlen hsv.tgt) (by kernel_rfl)),
      StepOK.p rfl rfl rfl (OpOK.appendOwn (e := 9) (bytes := 16) rfl rfl (by kernel_rfl) (by kernel_rfl) rfl (Nat.beq_refl _) rfl (by rw [stepW_n (by assumption)] <;> rfl) rfl (by simp only [List.length_map, List.length_cons, List.length_nil, List.length_append, List.length_take, List.length_drop]; omega) (by simp only [List.length_map, List.length_cons, List.length_nil, List.length_append, List.length_take, List.length_drop]; omega)),
      StepOK.p rfl rfl rfl (OpOK.callClo rfl rfl (by kernel_rfl) rfl (pol_line (stepW c b (nth (nth b.Policies i2).Steps k)) (polX c b (polsX c b i2) (nth b.Policies i2) k) (by rw [stepW_len]; omega) (joinStep h hb hsv) (textPol h hb (by omega) (by omega))) (by kernel_rfl)), trivial⟩ [(2, (.ref 1002 0)), (3, (.ref 1003 0)), (7, (.ref 1007 0)), (8, a'11), (58, a'7), (59, (vI ((b.Policies.length : Nat) : Int))), (60, (vI ((i2 : Nat) : Int))), (73, a'19), (74, (vI ((((nth b.Policies i2).Steps).length : Nat) : Int))), (75, (vI ((k : Nat) : Int)))] [(1002, a'9), (1003, a'10), (1007, a'32)] (by kernel_rfl) (by kernel_rfl) (by kernel_rfl) ?_
     refine blockQ_normal ?_
     refine nextQ_normal ?_
     refine AWp.reg' hGn hGk [.m (some 94) ⟨[(75, (vI ((k : Nat) : Int)))], [], (vI ((k + 1 : Nat) : Int)), [], []⟩, .a] ⟨StepOK.p rfl rfl rfl (OpOK.add rfl rfl rfl (by rw [IntWalk.i64_in _ ⟨by omega, by omega⟩]; omega)), trivial⟩ [(2, (.ref 1002 0)), (3, (.ref 1003 0)), (7, (.ref 1007 0)), (8, a'11), (58, a'7), (59, (vI ((b.Policies.length : Nat) : Int))), (60, (vI ((i2 : Nat) : Int))), (73, a'19), (74, (vI ((((nth b.Policies i2).Steps).length : Nat) : Int))), (75, (vI ((k + 1 : Nat) : Int)))] [(1002, a'9), (1003, a'10), (1007, a'32)] (by kernel_rfl) (by kernel_rfl) ?_
     refine nextQ_normal ⟨_, ?_, (k + 1), rfl, (by omega), rfl⟩
     · omega
   ·skip
    replace hc8 := of_decide_eq_false hc8
    refine AWp.weaken (mk [(2, (.ref 1002 0)), (3, (.ref 1003 0)), (7, (.ref 1007 0)), (8, a'11), (58, a'7), (59, (vI ((b.Policies.length : Nat) : Int))), (60, (vI ((i2 : Nat) : Int)))] [(1002, a'9), (1003, a'10), (1007, a'22)]) (Weak.sub' hGk (by kernel_rfl)) ?_
    refine AWp.exit ?_
    refine nextQ_exit ?_
    refine nextQ_exit ?_
    refine blockQ_exit ?_
    refine blockQ_normal ?_
    refine nextQ_normal ?_
    refine AWp.reg' hGn hGk [.m (some 95) ⟨[(60, (vI ((i2 : Nat) : Int)))], [], (vI ((i2 + 1 : Nat) : Int)), [], []⟩, .a] ⟨StepOK.p rfl rfl rfl (OpOK.add rfl rfl rfl (by rw [IntWalk.i64_in _ ⟨by omega, by omega⟩]; omega)), trivial⟩ [(2, (.ref 1002 0)), (3, (.ref 1003 0)), (7, (.ref 1007 0)), (8, a'11), (58, a'7), (59, (vI ((b.Policies.length : Nat) : Int))), (60, (vI ((i2 + 1 : Nat) : Int)))] [(1002, a'9), (1003, a'10), (1007, a'22)] (by kernel_rfl) (by kernel_rfl) ?_
    refine nextQ_normal ⟨_, ?_, (i2 + 1), (by have hke : k = (nth b.Policies i2).Steps.length := (by omega); subst hke; rfl), (by omega), rfl⟩
    · omega
  ·skip
   replace hc6 := of_decide_eq_false hc6
   refine AWp.weaken (mk [(7, (.ref 1007 0))] [(1007, (.box [(vS (polsX c b i2))]))]) (Weak.sub' hGk (by kernel_rfl)) ?_
   refine AWp.exit ?_
   refine nextQ_exit ?_
   refine nextQ_exit ?_
   refine blockQ_exit ?_
   refine nextQ_normal ?_
   refine AWp.s_reg hGn hGk (aa 3) (Man.aa _ _) [(4, (vS (polsX c b i2))), (5, (vI 0))] [] (by kernel_rfl) (by kernel_rfl) ?_
   refine AWp.ret ?_
   refine fin_of (.inr rfl) (v := (.tup [(vS (polsX c b i2)), (vI 0)])) (Res.many (by kernel_rfl) (Res1s.cons (Res1.tmp rfl) (Res1s.cons (Res1.tmp rfl) Res1s.nil))) (h' := []) rfl rfl ?_
   exact ⟨by rw [show i2 = b.Policies.length from by omega]; rfl, rfl⟩
theorem pol_Parse (c : D.Config) (b : D.Book) (h : CfgOK c) (hb : BookV b) (hv : bookErr 4 2 b = 0) (hp1 : 1 ≤ b.Policies.length) :
    SpecIs Tryz.prog 33 [(.agg [(.p (.sl false 3 (c.Zones.map D.Zone.cells))), (.p (.sl false 6 (c.People.map D.Person.cells))), (.p (.sl false 3 (c.Calendars.map D.Calendar.cells))), (.p (.sl false 3 (c.Schedules.map D.Schedule.cells)))]), (vS (restT c b 0))] [] (.tup [(.agg [(.p (.sl false 2 (b.Teams.map D.Team.cells))), (.p (.sl false 3 (b.Policies.map D.Policy.cells)))]), (vI 0), (vI 0)]) [] := by
 refine Spec.intro Tryz.func33 rfl (by kernel_rfl) ?_
 intro Γ hGn hGk
 replace hGn : Γ.n = 61 := hGn
 replace hGk : Γ.names = [] := hGk
 have hpl := h.plen
 have hsl := h.slen
 have htl := hb.tlen
 have hpp := hb.plen
 have hbz : (restT c b 0).size ≤ 46400 := by rw [← bookX_is]; exact bookX_size h hb
 let a'1 : AV := (.p (.sl false 3 (c.Zones.map D.Zone.cells)))
 let a'2 : AV := (.p (.sl false 6 (c.People.map D.Person.cells)))
 let a'3 : AV := (.p (.sl false 3 (c.Calendars.map D.Calendar.cells)))
 let a'4 : AV := (.p (.sl false 3 (c.Schedules.map D.Schedule.cells)))
 let a'5 : AV := (.agg [a'1, a'2, a'3, a'4])
 refine AWp.weaken (mk [(0, a'5), (1, (vS (restT c b 0)))] []) (Weak.sub' hGk (by kernel_rfl)) ?_
 let a'6 : AO := (.box [a'1, a'2, a'3, a'4])
 let a'7 : AO := (.box [(.p (.sl true 0 [])), (.p (.sl true 0 []))])
 refine AWp.s_reg hGn hGk (aa 4) (Man.aa _ _) [(1, (vS (restT c b 0))), (2, (.ref 1002 0)), (4, (.ref 1004 0))] [(1002, a'6), (1004, a'7)] (by kernel_rfl) (by kernel_rfl) ?_
 refine AWp.seq ?_
 refine AWp.s_reg hGn hGk [.a, .m (some 14) ⟨[(13, a'5)], [], (vI 0), [], []⟩, .a] ⟨StepOK.p rfl rfl rfl (OpOK.call rfl (by kernel_rfl) rfl (res_Check c h) (by kernel_rfl)), trivial⟩ [(1, (vS (restT c b 0))), (2, (.ref 1002 0)), (4, (.ref 1004 0)), (15, (vB false))] [(1002, a'6), (1004, a'7)] (by kernel_rfl) (by kernel_rfl) ?_
 refine AWp.cond_false rfl ?_
 refine AWp.skip ?_
 refine nextQ_normal ?_
 refine AWp.seq ?_
 refine AWp.s_reg hGn hGk [.a, .m (some 18) ⟨[(17, (vS (restT c b 0)))], [], (vI (((restT c b 0).size : Nat) : Int)), [], []⟩, .m (some 19) ⟨[(18, (vI (((restT c b 0).size : Nat) : Int)))], [], (vB false), [], []⟩] ⟨StepOK.p rfl rfl rfl (OpOK.lenS rfl rfl (by kernel_rfl) rfl),
  StepOK.p rfl rfl rfl (OpOK.gtr rfl rfl rfl (decide_eq_false (by omega))), trivial⟩ [(1, (vS (restT c b 0))), (2, (.ref 1002 0)), (4, (.ref 1004 0)), (19, (vB false))] [(1002, a'6), (1004, a'7)] (by kernel_rfl) (by kernel_rfl) ?_
 refine AWp.cond_false rfl ?_
 refine AWp.skip ?_
 refine nextQ_normal ?_
 let a'8 : AO := (.box [a'1, a'2, a'3, a'4, (.p (.sl true 0 [])), (.p (.sl true 0 []))])
 refine AWp.s_reg hGn hGk (aa 4) (Man.aa _ _) [(1, (vS (restT c b 0))), (2, (.ref 1002 0)), (4, (.ref 1004 0)), (7, (.ref 1023 0))] [(1002, a'6), (1004, a'7), (1023, a'8)] (by kernel_rfl) (by kernel_rfl) ?_
 refine AWp.seq ?_
 refine AWp.s_reg hGn hGk (aa 1) (Man.aa _ _) [(1, (vS (restT c b 0))), (2, (.ref 1002 0)), (4, (.ref 1004 0)), (5, (vI 1)), (7, (.ref 1023 0))] [(1002, a'6), (1004, a'7), (1023, a'8)] (by kernel_rfl) (by kernel_rfl) ?_
 refine AWp.block ?_
 refine AWp.weaken (mk [(1, (vS (restT c b 0))), (2, (.ref 1002 0)), (4, (.ref 1004 0)), (5, (vI 1)), (7, (.ref 1023 0))] [(1023, a'8), (1002, a'6), (1004, a'7)]) (Weak.sub' hGk (by kernel_rfl)) ?_
 refine AWp.weaken (mk [(1, (vS (restT c b 0))), (2, (.ref 1002 0)), (4, (.ref 1004 0)), (5, (vI 1)), (7, (.ref 1023 0))] [(1023, (.box [a'1, a'2, a'3, a'4, (.own 2000 0), (.p (.sl true 0 []))])), (2000, (.arr 2 [])), (1002, a'6), (1004, a'7)]) (Weak.thawCell (j := 4) (es0 := 0) (by kernel_rfl) rfl rfl (by kernel_rfl) (by kernel_rfl) rfl) ?_
 refine AWp.weaken (mk [(1, (vS (restT c b 0))), (2, (.ref 1002 0)), (4, (.ref 1004 0)), (5, (vI 1)), (7, (.ref 1023 0))] [(1023, (.box [a'1, a'2, a'3, a'4, (.own 2000 0), (.own 2001 0)])), (2001, (.arr 3 [])), (2000, (.arr 2 [])), (1002, a'6), (1004, a'7)]) (Weak.thawCell (j := 5) (es0 := 0) (by kernel_rfl) rfl rfl (by kernel_rfl) (by kernel_rfl) rfl) ?_
 refine AWp.weaken (mk [(1, (vS (restT c b 0))), (2, (.ref 1002 0)), (4, (.ref 1004 0)), (5, (vI 1)), (7, (.ref 1023 0))] [(1002, a'6), (1004, a'7), (1023, (.box [a'1, a'2, a'3, a'4, (.own 2000 0), (.own 2001 0)])), (2000, (.arr 2 [])), (2001, (.arr 3 []))]) (Weak.sub' hGk (by kernel_rfl)) ?_
 refine AWp.loop (fun m s => (∃ i, ∃ ln, s = (mk [(1, (vS (restT c b i))), (2, (.ref 1002 0)), (4, (.ref 1004 0)), (5, (vI ((ln : Nat) : Int))), (7, (.ref 1023 0))] [(1002, (.box [(.p (.sl false 3 (c.Zones.map D.Zone.cells))), (.p (.sl false 6 (c.People.map D.Person.cells))), (.p (.sl false 3 (c.Calendars.map D.Calendar.cells))), (.p (.sl false 3 (c.Schedules.map D.Schedule.cells)))])), (1004, (.box [(.p (.sl true 0 [])), (.p (.sl true 0 []))])), (1023, (.box [(.p (.sl false 3 (c.Zones.map D.Zone.cells))), (.p (.sl false 6 (c.People.map D.Person.cells))), (.p (.sl false 3 (c.Calendars.map D.Calendar.cells))), (.p (.sl false 3 (c.Schedules.map D.Schedule.cells))), (.own 2000 (((b.Teams.take i).map D.Team.cells).length)), (.own 2001 (((b.Policies.take 0).map D.Policy.cells).length))])), (2000, (.arr 2 ((b.Teams.take i).map D.Team.cells))), (2001, (.arr 3 ((b.Policies.take 0).map D.Policy.cells)))]) ∧ (i ≤ b.Teams.length) ∧ (ln + (restT c b i).size ≤ 100000) ∧ m = ((restT c b i).size)) ∨ (∃ i2, ∃ ln, s = (mk [(1, (vS (restS c b i2 0))), (2, (.ref 1002 0)), (4, (.ref 1004 0)), (5, (vI ((ln : Nat) : Int))), (7, (.ref 1023 0))] [(1002, (.box [(.p (.sl false 3 (c.Zones.map D.Zone.cells))), (.p (.sl false 6 (c.People.map D.Person.cells))), (.p (.sl false 3 (c.Calendars.map D.Calendar.cells))), (.p (.sl false 3 (c.Schedules.map D.Schedule.cells)))])), (1004, (.box [(.p (.sl true 0 [])), (.p (.sl true 0 []))])), (1023, (.box [(.p (.sl false 3 (c.Zones.map D.Zone.cells))), (.p (.sl false 6 (c.People.map D.Person.cells))), (.p (.sl false 3 (c.Calendars.map D.Calendar.cells))), (.p (.sl false 3 (c.Schedules.map D.Schedule.cells))), (.p (.sl false 2 (b.Teams.map D.Team.cells))), (.own 2001 (((b.Policies.take (i2 + 1)).map D.Policy.cells).length))])), (2001, (.hole 3 ((b.Policies.take i2).map D.Policy.cells) [(vS ((nth b.Policies i2).Name)), (.p (.sl true 0 [])), (vI ((nth b.Policies i2).Repeat))] []))]) ∧ (i2 < b.Policies.length) ∧ (ln + (restS c b i2 0).size ≤ 100000) ∧ m = ((restS c b i2 0).size)) ∨ (∃ i2, ∃ k, ∃ ln, s = (mk [(1, (vS (restS c b i2 k))), (2, (.ref 1002 0)), (4, (.ref 1004 0)), (5, (vI ((ln : Nat) : Int))), (7, (.ref 1023 0))] [(1002, (.box [(.p (.sl false 3 (c.Zones.map D.Zone.cells))), (.p (.sl false 6 (c.People.map D.Person.cells))), (.p (.sl false 3 (c.Calendars.map D.Calendar.cells))), (.p (.sl false 3 (c.Schedules.map D.Schedule.cells)))])), (1004, (.box [(.p (.sl true 0 [])), (.p (.sl true 0 []))])), (1023, (.box [(.p (.sl false 3 (c.Zones.map D.Zone.cells))), (.p (.sl false 6 (c.People.map D.Person.cells))), (.p (.sl false 3 (c.Calendars.map D.Calendar.cells))), (.p (.sl false 3 (c.Schedules.map D.Schedule.cells))), (.p (.sl false 2 (b.Teams.map D.Team.cells))), (.own 2001 (((b.Policies.take (i2 + 1)).map D.Policy.cells).length))])), (2001, (.hole 3 ((b.Policies.take i2).map D.Policy.cells) [(vS ((nth b.Policies i2).Name)), (.own 2002 ((((nth b.Policies i2).Steps.take k).map D.PolicyStep.cells).length)), (vI ((nth b.Policies i2).Repeat))] [])), (2002, (.arr 3 (((nth b.Policies i2).Steps.take k).map D.PolicyStep.cells)))]) ∧ (i2 < b.Policies.length) ∧ (1 ≤ k ∧ k ≤ (nth b.Policies i2).Steps.length) ∧ (ln + (restS c b i2 k).size ≤ 100000) ∧ m = ((restS c b i2 k).size)))
  ⟨_, .inl ⟨0, 1, rfl, (by omega), (by omega), rfl⟩⟩ ?_
 rintro mm1 s (⟨i, ln, rfl, hi, hlz, hmm1⟩ | ⟨i2, ln, rfl, hi2, hlz, hmm1⟩ | ⟨i2, k, ln, rfl, hi2, hk, hlz, hmm1⟩)
 ·skip
  refine AWp.seq ?_
  by_cases hs2 : i < b.Teams.length
  ·skip
   let a'9 : AV := (.own 2000 (((b.Teams.take i).map D.Team.cells).length))
   let a'10 : AV := (.own 2001 (((b.Policies.take 0).map D.Policy.cells).length))
   let a'11 : AO := (.box [a'1, a'2, a'3, a'4, a'9, a'10])
   let a'12 : AO := (.arr 2 ((b.Teams.take i).map D.Team.cells))
   let a'13 : AO := (.arr 3 ((b.Policies.take 0).map D.Policy.cells))
   refine AWp.s_reg hGn hGk [.a, .m (some 25) ⟨[(24, (vS (restT c b i)))], [], (vB true), [], []⟩] ⟨StepOK.p rfl rfl rfl (OpOK.neqS rfl rfl rfl (decide_eq_true (by rw [restT_step (by assumption)]; exact ln_ne _ _))), trivial⟩ [(1, (vS (restT c b i))), (2, (.ref 1002 0)), (4, (.ref 1004 0)), (5, (vI ((ln : Nat) : Int))), (7, (.ref 1023 0)), (25, (vB true))] [(1002, a'6), (1004, a'7), (1023, a'11), (2000, a'12), (2001, a'13)] (by kernel_rfl) (by kernel_rfl) ?_
   refine AWp.cond_true rfl ?_
   refine AWp.skip ?_
   refine nextQ_normal ?_
   refine AWp.seq ?_
   refine AWp.block ?_
   have hcx : restT c b i = lnOf (teamV c (nth b.Teams i) (nth b.Teams i).Members.length) ++ restT c b (i + 1) := restT_step (by assumption)
   have hcz : (restT c b i).size = (lnOf (teamV c (nth b.Teams i) (nth b.Teams i).Members.length)).size + (restT c b (i + 1)).size := by rw [hcx, ByteArray.size_append]
   have hcp := lnOf_pos (teamV c (nth b.Teams i) (nth b.Teams i).Members.length)
   refine AWp.s_reg hGn hGk [.a, .m (some 30) ⟨[(29, (vS (restT c b i)))], [], (.tup [(vS (joinS (teamV c (nth b.Teams i) (nth b.Teams i).Members.length))), (vS (restT c b (i + 1))), (vB true)]), [], []⟩, .a, .a, .a, .a, .a, .a, .a] ⟨StepOK.p rfl rfl rfl (OpOK.call rfl (by kernel_rfl) rfl (by rw [restT_step (by assumption)]; have h' := kit_Cut (lnOf (teamV c (nth b.Teams i) (nth b.Teams i).Members.length) ++ restT c b (i + 1)) (by rw [ByteArray.size_append]; omega); rw [(cut_ln ((teamV_wd h (hb.tname i (by assumption)).1 (hb.mem i (by assumption)) _ (Nat.le_refl _)).1) _).1, (cut_ln ((teamV_wd h (hb.tname i (by assumption)).1 (hb.mem i (by assumption)) _ (Nat.le_refl _)).1) _).2.1, (cut_ln ((teamV_wd h (hb.tname i (by assumption)).1 (hb.mem i (by assumption)) _ (Nat.le_refl _)).1) _).2.2] at h'; exact h') (by kernel_rfl)), trivial⟩ [(2, (.ref 1002 0)), (4, (.ref 1004 0)), (5, (vI ((ln : Nat) : Int))), (7, (.ref 1023 0)), (8, (vS (joinS (teamV c (nth b.Teams i) (nth b.Teams i).Members.length)))), (9, (vS (restT c b (i + 1)))), (10, (vB true))] [(1002, a'6), (1004, a'7), (1023, a'11), (2000, a'12), (2001, a'13)] (by kernel_rfl) (by kernel_rfl) ?_
   refine AWp.seq ?_
   refine AWp.s_reg hGn hGk (aa 2) (Man.aa _ _) [(2, (.ref 1002 0)), (4, (.ref 1004 0)), (5, (vI ((ln : Nat) : Int))), (7, (.ref 1023 0)), (8, (vS (joinS (teamV c (nth b.Teams i) (nth b.Teams i).Members.length)))), (9, (vS (restT c b (i + 1)))), (35, (vB false))] [(1002, a'6), (1004, a'7), (1023, a'11), (2000, a'12), (2001, a'13)] (by kernel_rfl) (by kernel_rfl) ?_
   refine AWp.cond_false rfl ?_
   refine AWp.skip ?_
   refine nextQ_normal ?_
   refine AWp.seq ?_
   let a'14 : AV := (.own 2000 (((b.Teams.take (i + 1)).map D.Team.cells).length))
   let a'15 : AO := (.box [a'1, a'2, a'3, a'4, a'14, a'10])
   let a'16 : AO := (.arr 2 ((b.Teams.take (i + 1)).map D.Team.cells))
   refine AWp.s_reg hGn hGk [.a, .a, .m (some 40) ⟨[(38, (.ref 1023 0)), (39, (vS (joinS (teamV c (nth b.Teams i) (nth b.Teams i).Members.length))))], [(1023, a'11), (2000, a'12), (2001, a'13)], (vI 0), [(1023, a'15), (2000, a'16), (2001, a'13)], []⟩, .a] ⟨StepOK.p rfl rfl rfl (OpOK.call rfl (by kernel_rfl) rfl (rd_line_team c b h hb i (by assumption) (teamV c (nth b.Teams i) (nth b.Teams i).Members.length) rfl ((teamV_wd h (hb.tname i (by assumption)).1 (hb.mem i (by assumption)) _ (Nat.le_refl _)).1) (by rw [teamV_len]; have := hb.mlen i (by assumption); omega) (joinTeam h hb (by assumption) (Nat.le_refl _))) (by kernel_rfl)), trivial⟩ [(2, (.ref 1002 0)), (4, (.ref 1004 0)), (5, (vI ((ln : Nat) : Int))), (7, (.ref 1023 0)), (9, (vS (restT c b (i + 1)))), (11, (vI 0))] [(1002, a'6), (1004, a'7), (1023, a'15), (2000, a'16), (2001, a'13)] (by kernel_rfl) (by kernel_rfl) ?_
   refine AWp.s_reg hGn hGk (aa 2) (Man.aa _ _) [(2, (.ref 1002 0)), (4, (.ref 1004 0)), (5, (vI ((ln : Nat) : Int))), (7, (.ref 1023 0)), (9, (vS (restT c b (i + 1)))), (11, (vI 0)), (42, (vB false))] [(1002, a'6), (1004, a'7), (1023, a'15), (2000, a'16), (2001, a'13)] (by kernel_rfl) (by kernel_rfl) ?_
   refine AWp.cond_false rfl ?_
   refine AWp.skip ?_
   refine nextQ_normal ?_
   refine AWp.reg' hGn hGk (aa 2) (Man.aa _ _) [(1, (vS (restT c b (i + 1)))), (2, (.ref 1002 0)), (4, (.ref 1004 0)), (5, (vI ((ln : Nat) : Int))), (7, (.ref 1023 0))] [(1002, a'6), (1004, a'7), (1023, a'15), (2000, a'16), (2001, a'13)] (by kernel_rfl) (by kernel_rfl) ?_
   refine blockQ_normal ?_
   refine nextQ_normal ?_
   refine AWp.reg' hGn hGk [.a, .m (some 27) ⟨[(26, (vI ((ln : Nat) : Int)))], [], (vI ((ln + 1 : Nat) : Int)), [], []⟩, .a] ⟨StepOK.p rfl rfl rfl (OpOK.add rfl rfl rfl (by rw [IntWalk.i64_in _ ⟨by omega, by omega⟩]; omega)), trivial⟩ [(1, (vS (restT c b (i + 1)))), (2, (.ref 1002 0)), (4, (.ref 1004 0)), (5, (vI ((ln + 1 : Nat) : Int))), (7, (.ref 1023 0))] [(1002, a'6), (1004, a'7), (1023, a'15), (2000, a'16), (2001, a'13)] (by kernel_rfl) (by kernel_rfl) ?_
   refine nextQ_normal ⟨_, ?_, .inl ⟨(i + 1), (ln + 1), rfl, (by omega), (by omega), rfl⟩⟩
   · omega
  ·skip
   let a'17 : AV := (.own 2000 (((b.Teams.take i).map D.Team.cells).length))
   let a'18 : AV := (.own 2001 (((b.Policies.take 0).map D.Policy.cells).length))
   let a'19 : AO := (.box [a'1, a'2, a'3, a'4, a'17, a'18])
   let a'20 : AO := (.arr 2 ((b.Teams.take i).map D.Team.cells))
   let a'21 : AO := (.arr 3 ((b.Policies.take 0).map D.Policy.cells))
   refine AWp.s_reg hGn hGk [.a, .m (some 25) ⟨[(24, (vS (restT c b i)))], [], (vB true), [], []⟩] ⟨StepOK.p rfl rfl rfl (OpOK.neqS rfl rfl rfl (decide_eq_true (by rw [(restT_end (by assumption)).trans (restP_step (by omega))]; exact ln_ne _ _))), trivial⟩ [(1, (vS (restT c b i))), (2, (.ref 1002 0)), (4, (.ref 1004 0)), (5, (vI ((ln : Nat) : Int))), (7, (.ref 1023 0)), (25, (vB true))] [(1002, a'6), (1004, a'7), (1023, a'19), (2000, a'20), (2001, a'21)] (by kernel_rfl) (by kernel_rfl) ?_
   refine AWp.cond_true rfl ?_
   refine AWp.skip ?_
   refine nextQ_normal ?_
   refine AWp.seq ?_
   refine AWp.block ?_
   have hcx : restT c b i = lnOf (polW (nth b.Policies 0)) ++ restS c b 0 0 := (restT_end (by assumption)).trans (restP_step (by omega))
   have hcz : (restT c b i).size = (lnOf (polW (nth b.Policies 0))).size + (restS c b 0 0).size := by rw [hcx, ByteArray.size_append]
   have hcp := lnOf_pos (polW (nth b.Policies 0))
   refine AWp.s_reg hGn hGk [.a, .m (some 30) ⟨[(29, (vS (restT c b i)))], [], (.tup [(vS (joinS (polW (nth b.Policies 0)))), (vS (restS c b 0 0)), (vB true)]), [], []⟩, .a, .a, .a, .a, .a, .a, .a] ⟨StepOK.p rfl rfl rfl (OpOK.call rfl (by kernel_rfl) rfl (by rw [(restT_end (by assumption)).trans (restP_step (by omega))]; have h' := kit_Cut (lnOf (polW (nth b.Policies 0)) ++ restS c b 0 0) (by rw [ByteArray.size_append]; omega); rw [(cut_ln (polW_wd (hb.pname 0 (by omega)) (hb.rep 0 (by omega))) _).1, (cut_ln (polW_wd (hb.pname 0 (by omega)) (hb.rep 0 (by omega))) _).2.1, (cut_ln (polW_wd (hb.pname 0 (by omega)) (hb.rep 0 (by omega))) _).2.2] at h'; exact h') (by kernel_rfl)), trivial⟩ [(2, (.ref 1002 0)), (4, (.ref 1004 0)), (5, (vI ((ln : Nat) : Int))), (7, (.ref 1023 0)), (8, (vS (joinS (polW (nth b.Policies 0))))), (9, (vS (restS c b 0 0))), (10, (vB true))] [(1002, a'6), (1004, a'7), (1023, a'19), (2000, a'20), (2001, a'21)] (by kernel_rfl) (by kernel_rfl) ?_
   refine AWp.seq ?_
   refine AWp.s_reg hGn hGk (aa 2) (Man.aa _ _) [(2, (.ref 1002 0)), (4, (.ref 1004 0)), (5, (vI ((ln : Nat) : Int))), (7, (.ref 1023 0)), (8, (vS (joinS (polW (nth b.Policies 0))))), (9, (vS (restS c b 0 0))), (35, (vB false))] [(1002, a'6), (1004, a'7), (1023, a'19), (2000, a'20), (2001, a'21)] (by kernel_rfl) (by kernel_rfl) ?_
   refine AWp.cond_false rfl ?_
   refine AWp.skip ?_
   refine nextQ_normal ?_
   refine AWp.seq ?_
   have e7 : b.Teams.take i = b.Teams := List.take_of_length_le (by omega)
   refine AWp.cast (show (mk [(2, (.ref 1002 0)), (4, (.ref 1004 0)), (5, (vI ((ln : Nat) : Int))), (7, (.ref 1023 0)), (8, (vS (joinS (polW (nth b.Policies 0))))), (9, (vS (restS c b 0 0))), (35, (vB false))] [(1002, (.box [(.p (.sl false 3 (c.Zones.map D.Zone.cells))), (.p (.sl false 6 (c.People.map D.Person.cells))), (.p (.sl false 3 (c.Calendars.map D.Calendar.cells))), (.p (.sl false 3 (c.Schedules.map D.Schedule.cells)))])), (1004, (.box [(.p (.sl true 0 [])), (.p (.sl true 0 []))])), (1023, (.box [(.p (.sl false 3 (c.Zones.map D.Zone.cells))), (.p (.sl false 6 (c.People.map D.Person.cells))), (.p (.sl false 3 (c.Calendars.map D.Calendar.cells))), (.p (.sl false 3 (c.Schedules.map D.Schedule.cells))), (.own 2000 (((b.Teams.take i).map D.Team.cells).length)), (.own 2001 (((b.Policies.take 0).map D.Policy.cells).length))])), (2000, (.arr 2 ((b.Teams.take i).map D.Team.cells))), (2001, (.arr 3 ((b.Policies.take 0).map D.Policy.cells)))]) = (mk [(2, (.ref 1002 0)), (4, (.ref 1004 0)), (5, (vI ((ln : Nat) : Int))), (7, (.ref 1023 0)), (8, (vS (joinS (polW (nth b.Policies 0))))), (9, (vS (restS c b 0 0))), (35, (vB false))] [(1002, (.box [(.p (.sl false 3 (c.Zones.map D.Zone.cells))), (.p (.sl false 6 (c.People.map D.Person.cells))), (.p (.sl false 3 (c.Calendars.map D.Calendar.cells))), (.p (.sl false 3 (c.Schedules.map D.Schedule.cells)))])), (1004, (.box [(.p (.sl true 0 [])), (.p (.sl true 0 []))])), (1023, (.box [(.p (.sl false 3 (c.Zones.map D.Zone.cells))), (.p (.sl false 6 (c.People.map D.Person.cells))), (.p (.sl false 3 (c.Calendars.map D.Calendar.cells))), (.p (.sl false 3 (c.Schedules.map D.Schedule.cells))), (.own 2000 ((b.Teams.map D.Team.cells).length)), (.own 2001 (((b.Policies.take 0).map D.Policy.cells).length))])), (2000, (.arr 2 (b.Teams.map D.Team.cells))), (2001, (.arr 3 ((b.Policies.take 0).map D.Policy.cells)))]) from (by rw [e7])) ?_
   refine AWp.weaken (mk [(2, (.ref 1002 0)), (4, (.ref 1004 0)), (5, (vI ((ln : Nat) : Int))), (7, (.ref 1023 0)), (8, (vS (joinS (polW (nth b.Policies 0))))), (9, (vS (restS c b 0 0))), (35, (vB false))] [(2000, (.arr 2 (b.Teams.map D.Team.cells))), (1002, a'6), (1004, a'7), (1023, (.box [a'1, a'2, a'3, a'4, (.own 2000 ((b.Teams.map D.Team.cells).length)), a'18])), (2001, a'21)]) (Weak.sub' hGk (by kernel_rfl)) ?_
   let a'22 : AV := (.p (.sl false 2 (b.Teams.map D.Team.cells)))
   refine AWp.weaken (mk [(2, (.ref 1002 0)), (4, (.ref 1004 0)), (5, (vI ((ln : Nat) : Int))), (7, (.ref 1023 0)), (8, (vS (joinS (polW (nth b.Policies 0))))), (9, (vS (restS c b 0 0))), (35, (vB false))] [(1002, a'6), (1004, a'7), (1023, (.box [a'1, a'2, a'3, a'4, a'22, a'18])), (2001, a'21)]) (Weak.freeze (n := 2000) (es := 2) (rows := (b.Teams.map D.Team.cells)) (by rw [hGk]; decide) ⟨rfl, (.same rfl), ⟨rfl, (.same rfl), ⟨rfl, (.same rfl), ⟨rfl, (.same rfl), ⟨rfl, (.same rfl), ⟨rfl, (.same rfl), ⟨rfl, (.same rfl), trivial⟩⟩⟩⟩⟩⟩⟩ ⟨rfl, by decide, (.same rfl), ⟨rfl, by decide, (.same rfl), ⟨rfl, by decide, (.box (.cons (.same rfl) (.cons (.same rfl) (.cons (.same rfl) (.cons (.same rfl) (.cons .own (.cons (.same rfl) .nil))))))), ⟨rfl, by decide, (.same rfl), trivial⟩⟩⟩⟩) ?_
   let a'23 : AV := (.own 2001 (((b.Policies.take (0 + 1)).map D.Policy.cells).length))
   let a'24 : AO := (.box [a'1, a'2, a'3, a'4, a'22, a'23])
   let a'25 : AO := (.hole 3 ((b.Policies.take 0).map D.Policy.cells) [(vS ((nth b.Policies 0).Name)), (.p (.sl true 0 [])), (vI ((nth b.Policies 0).Repeat))] [])
   refine AWp.s_reg hGn hGk [.a, .a, .m (some 40) ⟨[(38, (.ref 1023 0)), (39, (vS (joinS (polW (nth b.Policies 0)))))], [(1023, (.box [a'1, a'2, a'3, a'4, a'22, a'18])), (2001, a'21)], (vI 0), [(1023, a'24), (2001, a'25)], []⟩, .a] ⟨StepOK.p rfl rfl rfl (OpOK.call rfl (by kernel_rfl) rfl (rd_line_pol c b h hb 0 (by omega) (polW (nth b.Policies 0)) rfl (polW_wd (hb.pname 0 (by omega)) (hb.rep 0 (by omega))) (show (3 : Nat) ≤ 1000 by decide) (joinPol (hb.pname 0 (by omega)) (hb.rep 0 (by omega)))) (by kernel_rfl)), trivial⟩ [(2, (.ref 1002 0)), (4, (.ref 1004 0)), (5, (vI ((ln : Nat) : Int))), (7, (.ref 1023 0)), (9, (vS (restS c b 0 0))), (11, (vI 0))] [(1002, a'6), (1004, a'7), (1023, a'24), (2001, a'25)] (by kernel_rfl) (by kernel_rfl) ?_
   refine AWp.s_reg hGn hGk (aa 2) (Man.aa _ _) [(2, (.ref 1002 0)), (4, (.ref 1004 0)), (5, (vI ((ln : Nat) : Int))), (7, (.ref 1023 0)), (9, (vS (restS c b 0 0))), (11, (vI 0)), (42, (vB false))] [(1002, a'6), (1004, a'7), (1023, a'24), (2001, a'25)] (by kernel_rfl) (by kernel_rfl) ?_
   refine AWp.cond_false rfl ?_
   refine AWp.skip ?_
   refine nextQ_normal ?_
   refine AWp.reg' hGn hGk (aa 2) (Man.aa _ _) [(1, (vS (restS c b 0 0))), (2, (.ref 1002 0)), (4, (.ref 1004 0)), (5, (vI ((ln : Nat) : Int))), (7, (.ref 1023 0))] [(1002, a'6), (1004, a'7), (1023, a'24), (2001, a'25)] (by kernel_rfl) (by kernel_rfl) ?_
   refine blockQ_normal ?_
   refine nextQ_normal ?_
   refine AWp.reg' hGn hGk [.a, .m (some 27) ⟨[(26, (vI ((ln : Nat) : Int)))], [], (vI ((ln + 1 : Nat) : Int)), [], []⟩, .a] ⟨StepOK.p rfl rfl rfl (OpOK.add rfl rfl rfl (by rw [IntWalk.i64_in _ ⟨by omega, by omega⟩]; omega)), trivial⟩ [(1, (vS (restS c b 0 0))), (2, (.ref 1002 0)), (4, (.ref 1004 0)), (5, (vI ((ln + 1 : Nat) : Int))), (7, (.ref 1023 0))] [(1002, a'6), (1004, a'7), (1023, a'24), (2001, a'25)] (by kernel_rfl) (by kernel_rfl) ?_
   refine nextQ_normal ⟨_, ?_, .inr (.inl ⟨0, (ln + 1), rfl, (by omega), (by omega), rfl⟩)⟩
   · omega
 ·skip
  have hpos := hb.spos i2 hi2
  have hlt : (List.map D.Policy.cells (b.Policies.take (i2 + 1))).length = i2 + 1 := by rw [List.length_map, List.length_take]; omega
  have hhl : Nat.beq (List.map D.Policy.cells (b.Policies.take (i2 + 1))).length ((List.map D.Policy.cells (b.Policies.take i2)).length + 1 + ([] : List (List PV)).length) = true := by rw [show (List.map D.Policy.cells (b.Policies.take i2)).length + 1 + ([] : List (List PV)).length = (List.map D.Policy.cells (b.Policies.take (i2 + 1))).length from by rw [hlt, List.length_map, List.length_take, List.length_nil]; omega]; exact Nat.beq_refl _
  refine AWp.seq ?_
  let a'26 : AV := (.p (.sl false 2 (b.Teams.map D.Team.cells)))
  let a'27 : AV := (.own 2001 (((b.Policies.take (i2 + 1)).map D.Policy.cells).length))
  let a'28 : AO := (.box [a'1, a'2, a'3, a'4, a'26, a'27])
  let a'29 : AO := (.hole 3 ((b.Policies.take i2).map D.Policy.cells) [(vS ((nth b.Policies i2).Name)), (.p (.sl true 0 [])), (vI ((nth b.Policies i2).Repeat))] [])
  refine AWp.s_reg hGn hGk [.a, .m (some 25) ⟨[(24, (vS (restS c b i2 0)))], [], (vB true), [], []⟩] ⟨StepOK.p rfl rfl rfl (OpOK.neqS rfl rfl rfl (decide_eq_true (by rw [restS_step (by omega)]; exact ln_ne _ _))), trivial⟩ [(1, (vS (restS c b i2 0))), (2, (.ref 1002 0)), (4, (.ref 1004 0)), (5, (vI ((ln : Nat) : Int))), (7, (.ref 1023 0)), (25, (vB true))] [(1002, a'6), (1004, a'7), (1023, a'28), (2001, a'29)] (by kernel_rfl) (by kernel_rfl) ?_
  refine AWp.cond_true rfl ?_
  refine AWp.skip ?_
  refine nextQ_normal ?_
  refine AWp.seq ?_
  refine AWp.block ?_
  have hcx : restS c b i2 0 = lnOf (stepW c b (nth (nth b.Policies i2).Steps 0)) ++ restS c b i2 1 := restS_step (by omega)
  have hcz : (restS c b i2 0).size = (lnOf (stepW c b (nth (nth b.Policies i2).Steps 0))).size + (restS c b i2 1).size := by rw [hcx, ByteArray.size_append]
  have hcp := lnOf_pos (stepW c b (nth (nth b.Policies i2).Steps 0))
  refine AWp.s_reg hGn hGk [.a, .m (some 30) ⟨[(29, (vS (restS c b i2 0)))], [], (.tup [(vS (joinS (stepW c b (nth (nth b.Policies i2).Steps 0)))), (vS (restS c b i2 1)), (vB true)]), [], []⟩, .a, .a, .a, .a, .a, .a, .a] ⟨StepOK.p rfl rfl rfl (OpOK.call rfl (by kernel_rfl) rfl (by rw [restS_step (by omega)]; have h' := kit_Cut (lnOf (stepW c b (nth (nth b.Policies i2).Steps 0)) ++ restS c b i2 1) (by rw [ByteArray.size_append]; omega); rw [(cut_ln ((stepW_wd h hb (hb.step i2 (by omega) 0 (by omega))).1) _).1, (cut_ln ((stepW_wd h hb (hb.step i2 (by omega) 0 (by omega))).1) _).2.1, (cut_ln ((stepW_wd h hb (hb.step i2 (by omega) 0 (by omega))).1) _).2.2] at h'; exact h') (by kernel_rfl)), trivial⟩ [(2, (.ref 1002 0)), (4, (.ref 1004 0)), (5, (vI ((ln : Nat) : Int))), (7, (.ref 1023 0)), (8, (vS (joinS (stepW c b (nth (nth b.Policies i2).Steps 0))))), (9, (vS (restS c b i2 1))), (10, (vB true))] [(1002, a'6), (1004, a'7), (1023, a'28), (2001, a'29)] (by kernel_rfl) (by kernel_rfl) ?_
  refine AWp.seq ?_
  refine AWp.s_reg hGn hGk (aa 2) (Man.aa _ _) [(2, (.ref 1002 0)), (4, (.ref 1004 0)), (5, (vI ((ln : Nat) : Int))), (7, (.ref 1023 0)), (8, (vS (joinS (stepW c b (nth (nth b.Policies i2).Steps 0))))), (9, (vS (restS c b i2 1))), (35, (vB false))] [(1002, a'6), (1004, a'7), (1023, a'28), (2001, a'29)] (by kernel_rfl) (by kernel_rfl) ?_
  refine AWp.cond_false rfl ?_
  refine AWp.skip ?_
  refine nextQ_normal ?_
  refine AWp.seq ?_
  let a'30 : AV := (.own 2002 ((((nth b.Policies i2).Steps.take 1).map D.PolicyStep.cells).length))
  let a'31 : AO := (.hole 3 ((b.Policies.take i2).map D.Policy.cells) [(vS ((nth b.Policies i2).Name)), a'30, (vI ((nth b.Policies i2).Repeat))] [])
  let a'32 : AO := (.arr 3 (((nth b.Policies i2).Steps.take 1).map D.PolicyStep.cells))
  refine AWp.s_reg hGn hGk [.a, .a, .m (some 40) ⟨[(38, (.ref 1023 0)), (39, (vS (joinS (stepW c b (nth (nth b.Policies i2).Steps 0)))))], [(1023, a'28), (2001, a'29)], (vI 0), [(1023, a'28), (2001, a'31), (2002, a'32)], [2002]⟩, .a] ⟨StepOK.p rfl rfl rfl (OpOK.call rfl (by kernel_rfl) rfl (rd_line_step0 c b h hb i2 (by omega) (by omega) (stepW c b (nth (nth b.Policies i2).Steps 0)) rfl ((stepW_wd h hb (hb.step i2 (by omega) 0 (by omega))).1) (by rw [stepW_len]; have := (hb.step i2 (by omega) 0 (by omega)).tlen; omega) (joinStep h hb (hb.step i2 (by omega) 0 (by omega)))) (by kernel_rfl)), trivial⟩ [(2, (.ref 1002 0)), (4, (.ref 1004 0)), (5, (vI ((ln : Nat) : Int))), (7, (.ref 1023 0)), (9, (vS (restS c b i2 1))), (11, (vI 0))] [(1002, a'6), (1004, a'7), (1023, a'28), (2001, a'31), (2002, a'32)] (by kernel_rfl) (by kernel_rfl) ?_
  refine AWp.s_reg hGn hGk (aa 2) (Man.aa _ _) [(2, (.ref 1002 0)), (4, (.ref 1004 0)), (5, (vI ((ln : Nat) : Int))), (7, (.ref 1023 0)), (9, (vS (restS c b i2 1))), (11, (vI 0)), (42, (vB false))] [(1002, a'6), (1004, a'7), (1023, a'28), (2001, a'31), (2002, a'32)] (by kernel_rfl) (by kernel_rfl) ?_
  refine AWp.cond_false rfl ?_
  refine AWp.skip ?_
  refine nextQ_normal ?_
  refine AWp.reg' hGn hGk (aa 2) (Man.aa _ _) [(1, (vS (restS c b i2 1))), (2, (.ref 1002 0)), (4, (.ref 1004 0)), (5, (vI ((ln : Nat) : Int))), (7, (.ref 1023 0))] [(1002, a'6), (1004, a'7), (1023, a'28), (2001, a'31), (2002, a'32)] (by kernel_rfl) (by kernel_rfl) ?_
  refine blockQ_normal ?_
  refine nextQ_normal ?_
  refine AWp.reg' hGn hGk [.a, .m (some 27) ⟨[(26, (vI ((ln : Nat) : Int)))], [], (vI ((ln + 1 : Nat) : Int)), [], []⟩, .a] ⟨StepOK.p rfl rfl rfl (OpOK.add rfl rfl rfl (by rw [IntWalk.i64_in _ ⟨by omega, by omega⟩]; omega)), trivial⟩ [(1, (vS (restS c b i2 1))), (2, (.ref 1002 0)), (4, (.ref 1004 0)), (5, (vI ((ln + 1 : Nat) : Int))), (7, (.ref 1023 0))] [(1002, a'6), (1004, a'7), (1023, a'28), (2001, a'31), (2002, a'32)] (by kernel_rfl) (by kernel_rfl) ?_
  refine nextQ_normal ⟨_, ?_, .inr (.inr ⟨i2, 1, (ln + 1), rfl, (by omega), (by omega), (by omega), rfl⟩)⟩
  · omega
 ·skip
  have hpos := hb.spos i2 hi2
  have hlt : (List.map D.Policy.cells (b.Policies.take (i2 + 1))).length = i2 + 1 := by rw [List.length_map, List.length_take]; omega
  have hhl : Nat.beq (List.map D.Policy.cells (b.Policies.take (i2 + 1))).length ((List.map D.Policy.cells (b.Policies.take i2)).length + 1 + ([] : List (List PV)).length) = true := by rw [show (List.map D.Policy.cells (b.Policies.take i2)).length + 1 + ([] : List (List PV)).length = (List.map D.Policy.cells (b.Policies.take (i2 + 1))).length from by rw [hlt, List.length_map, List.length_take, List.length_nil]; omega]; exact Nat.beq_refl _
  refine AWp.seq ?_
  by_cases hs3 : k < (nth b.Policies i2).Steps.length
  ·skip
   let a'33 : AV := (.p (.sl false 2 (b.Teams.map D.Team.cells)))
   let a'34 : AV := (.own 2001 (((b.Policies.take (i2 + 1)).map D.Policy.cells).length))
   let a'35 : AO := (.box [a'1, a'2, a'3, a'4, a'33, a'34])
   let a'36 : AV := (.own 2002 ((((nth b.Policies i2).Steps.take k).map D.PolicyStep.cells).length))
   let a'37 : AO := (.hole 3 ((b.Policies.take i2).map D.Policy.cells) [(vS ((nth b.Policies i2).Name)), a'36, (vI ((nth b.Policies i2).Repeat))] [])
   let a'38 : AO := (.arr 3 (((nth b.Policies i2).Steps.take k).map D.PolicyStep.cells))
   refine AWp.s_reg hGn hGk [.a, .m (some 25) ⟨[(24, (vS (restS c b i2 k)))], [], (vB true), [], []⟩] ⟨StepOK.p rfl rfl rfl (OpOK.neqS rfl rfl rfl (decide_eq_true (by rw [restS_step (by assumption)]; exact ln_ne _ _))), trivial⟩ [(1, (vS (restS c b i2 k))), (2, (.ref 1002 0)), (4, (.ref 1004 0)), (5, (vI ((ln : Nat) : Int))), (7, (.ref 1023 0)), (25, (vB true))] [(1002, a'6), (1004, a'7), (1023, a'35), (2001, a'37), (2002, a'38)] (by kernel_rfl) (by kernel_rfl) ?_
   refine AWp.cond_true rfl ?_
   refine AWp.skip ?_
   refine nextQ_normal ?_
   refine AWp.seq ?_
   refine AWp.block ?_
   have hcx : restS c b i2 k = lnOf (stepW c b (nth (nth b.Policies i2).Steps k)) ++ restS c b i2 (k + 1) := restS_step (by assumption)
   have hcz : (restS c b i2 k).size = (lnOf (stepW c b (nth (nth b.Policies i2).Steps k))).size + (restS c b i2 (k + 1)).size := by rw [hcx, ByteArray.size_append]
   have hcp := lnOf_pos (stepW c b (nth (nth b.Policies i2).Steps k))
   refine AWp.s_reg hGn hGk [.a, .m (some 30) ⟨[(29, (vS (restS c b i2 k)))], [], (.tup [(vS (joinS (stepW c b (nth (nth b.Policies i2).Steps k)))), (vS (restS c b i2 (k + 1))), (vB true)]), [], []⟩, .a, .a, .a, .a, .a, .a, .a] ⟨StepOK.p rfl rfl rfl (OpOK.call rfl (by kernel_rfl) rfl (by rw [restS_step (by assumption)]; have h' := kit_Cut (lnOf (stepW c b (nth (nth b.Policies i2).Steps k)) ++ restS c b i2 (k + 1)) (by rw [ByteArray.size_append]; omega); rw [(cut_ln ((stepW_wd h hb (hb.step i2 (by omega) k (by assumption))).1) _).1, (cut_ln ((stepW_wd h hb (hb.step i2 (by omega) k (by assumption))).1) _).2.1, (cut_ln ((stepW_wd h hb (hb.step i2 (by omega) k (by assumption))).1) _).2.2] at h'; exact h') (by kernel_rfl)), trivial⟩ [(2, (.ref 1002 0)), (4, (.ref 1004 0)), (5, (vI ((ln : Nat) : Int))), (7, (.ref 1023 0)), (8, (vS (joinS (stepW c b (nth (nth b.Policies i2).Steps k))))), (9, (vS (restS c b i2 (k + 1)))), (10, (vB true))] [(1002, a'6), (1004, a'7), (1023, a'35), (2001, a'37), (2002, a'38)] (by kernel_rfl) (by kernel_rfl) ?_
   refine AWp.seq ?_
   refine AWp.s_reg hGn hGk (aa 2) (Man.aa _ _) [(2, (.ref 1002 0)), (4, (.ref 1004 0)), (5, (vI ((ln : Nat) : Int))), (7, (.ref 1023 0)), (8, (vS (joinS (stepW c b (nth (nth b.Policies i2).Steps k))))), (9, (vS (restS c b i2 (k + 1)))), (35, (vB false))] [(1002, a'6), (1004, a'7), (1023, a'35), (2001, a'37), (2002, a'38)] (by kernel_rfl) (by kernel_rfl) ?_
   refine AWp.cond_false rfl ?_
   refine AWp.skip ?_
   refine nextQ_normal ?_
   refine AWp.seq ?_
   let a'39 : AV := (.own 2002 ((((nth b.Policies i2).Steps.take (k + 1)).map D.PolicyStep.cells).length))
   let a'40 : AO := (.hole 3 ((b.Policies.take i2).map D.Policy.cells) [(vS ((nth b.Policies i2).Name)), a'39, (vI ((nth b.Policies i2).Repeat))] [])
   let a'41 : AO := (.arr 3 (((nth b.Policies i2).Steps.take (k + 1)).map D.PolicyStep.cells))
   refine AWp.s_reg hGn hGk [.a, .a, .m (some 40) ⟨[(38, (.ref 1023 0)), (39, (vS (joinS (stepW c b (nth (nth b.Policies i2).Steps k)))))], [(1023, a'35), (2001, a'37), (2002, a'38)], (vI 0), [(1023, a'35), (2001, a'40), (2002, a'41)], []⟩, .a] ⟨StepOK.p rfl rfl rfl (OpOK.call rfl (by kernel_rfl) rfl (rd_line_stepk c b h hb i2 (by omega) k (by omega) (stepW c b (nth (nth b.Policies i2).Steps k)) rfl ((stepW_wd h hb (hb.step i2 (by omega) k (by assumption))).1) (by rw [stepW_len]; have := (hb.step i2 (by omega) k (by omega)).tlen; omega) (joinStep h hb (hb.step i2 (by omega) k (by omega)))) (by kernel_rfl)), trivial⟩ [(2, (.ref 1002 0)), (4, (.ref 1004 0)), (5, (vI ((ln : Nat) : Int))), (7, (.ref 1023 0)), (9, (vS (restS c b i2 (k + 1)))), (11, (vI 0))] [(1002, a'6), (1004, a'7), (1023, a'35), (2001, a'40), (2002, a'41)] (by kernel_rfl) (by kernel_rfl) ?_
   refine AWp.s_reg hGn hGk (aa 2) (Man.aa _ _) [(2, (.ref 1002 0)), (4, (.ref 1004 0)), (5, (vI ((ln : Nat) : Int))), (7, (.ref 1023 0)), (9, (vS (restS c b i2 (k + 1)))), (11, (vI 0)), (42, (vB false))] [(1002, a'6), (1004, a'7), (1023, a'35), (2001, a'40), (2002, a'41)] (by kernel_rfl) (by kernel_rfl) ?_
   refine AWp.cond_false rfl ?_
   refine AWp.skip ?_
   refine nextQ_normal ?_
   refine AWp.reg' hGn hGk (aa 2) (Man.aa _ _) [(1, (vS (restS c b i2 (k + 1)))), (2, (.ref 1002 0)), (4, (.ref 1004 0)), (5, (vI ((ln : Nat) : Int))), (7, (.ref 1023 0))] [(1002, a'6), (1004, a'7), (1023, a'35), (2001, a'40), (2002, a'41)] (by kernel_rfl) (by kernel_rfl) ?_
   refine blockQ_normal ?_
   refine nextQ_normal ?_
   refine AWp.reg' hGn hGk [.a, .m (some 27) ⟨[(26, (vI ((ln : Nat) : Int)))], [], (vI ((ln + 1 : Nat) : Int)), [], []⟩, .a] ⟨StepOK.p rfl rfl rfl (OpOK.add rfl rfl rfl (by rw [IntWalk.i64_in _ ⟨by omega, by omega⟩]; omega)), trivial⟩ [(1, (vS (restS c b i2 (k + 1)))), (2, (.ref 1002 0)), (4, (.ref 1004 0)), (5, (vI ((ln + 1 : Nat) : Int))), (7, (.ref 1023 0))] [(1002, a'6), (1004, a'7), (1023, a'35), (2001, a'40), (2002, a'41)] (by kernel_rfl) (by kernel_rfl) ?_
   refine nextQ_normal ⟨_, ?_, .inr (.inr ⟨i2, (k + 1), (ln + 1), rfl, (by omega), (by omega), (by omega), rfl⟩)⟩
   · omega
  ·skip
   by_cases hs4 : i2 + 1 < b.Policies.length
   ·skip
    let a'42 : AV := (.p (.sl false 2 (b.Teams.map D.Team.cells)))
    let a'43 : AV := (.own 2001 (((b.Policies.take (i2 + 1)).map D.Policy.cells).length))
    let a'44 : AO := (.box [a'1, a'2, a'3, a'4, a'42, a'43])
    let a'45 : AV := (.own 2002 ((((nth b.Policies i2).Steps.take k).map D.PolicyStep.cells).length))
    let a'46 : AO := (.hole 3 ((b.Policies.take i2).map D.Policy.cells) [(vS ((nth b.Policies i2).Name)), a'45, (vI ((nth b.Policies i2).Repeat))] [])
    let a'47 : AO := (.arr 3 (((nth b.Policies i2).Steps.take k).map D.PolicyStep.cells))
    refine AWp.s_reg hGn hGk [.a, .m (some 25) ⟨[(24, (vS (restS c b i2 k)))], [], (vB true), [], []⟩] ⟨StepOK.p rfl rfl rfl (OpOK.neqS rfl rfl rfl (decide_eq_true (by rw [(restS_end (by assumption)).trans (restP_step (by assumption))]; exact ln_ne _ _))), trivial⟩ [(1, (vS (restS c b i2 k))), (2, (.ref 1002 0)), (4, (.ref 1004 0)), (5, (vI ((ln : Nat) : Int))), (7, (.ref 1023 0)), (25, (vB true))] [(1002, a'6), (1004, a'7), (1023, a'44), (2001, a'46), (2002, a'47)] (by kernel_rfl) (by kernel_rfl) ?_
    refine AWp.cond_true rfl ?_
    refine AWp.skip ?_
    refine nextQ_normal ?_
    refine AWp.seq ?_
    refine AWp.block ?_
    have hcx : restS c b i2 k = lnOf (polW (nth b.Policies (i2 + 1))) ++ restS c b (i2 + 1) 0 := (restS_end (by assumption)).trans (restP_step (by assumption))
    have hcz : (restS c b i2 k).size = (lnOf (polW (nth b.Policies (i2 + 1)))).size + (restS c b (i2 + 1) 0).size := by rw [hcx, ByteArray.size_append]
    have hcp := lnOf_pos (polW (nth b.Policies (i2 + 1)))
    refine AWp.s_reg hGn hGk [.a, .m (some 30) ⟨[(29, (vS (restS c b i2 k)))], [], (.tup [(vS (joinS (polW (nth b.Policies (i2 + 1))))), (vS (restS c b (i2 + 1) 0)), (vB true)]), [], []⟩, .a, .a, .a, .a, .a, .a, .a] ⟨StepOK.p rfl rfl rfl (OpOK.call rfl (by kernel_rfl) rfl (by rw [(restS_end (by assumption)).trans (restP_step (by assumption))]; have h' := kit_Cut (lnOf (polW (nth b.Policies (i2 + 1))) ++ restS c b (i2 + 1) 0) (by rw [ByteArray.size_append]; omega); rw [(cut_ln (polW_wd (hb.pname (i2 + 1) (by assumption)) (hb.rep (i2 + 1) (by assumption))) _).1, (cut_ln (polW_wd (hb.pname (i2 + 1) (by assumption)) (hb.rep (i2 + 1) (by assumption))) _).2.1, (cut_ln (polW_wd (hb.pname (i2 + 1) (by assumption)) (hb.rep (i2 + 1) (by assumption))) _).2.2] at h'; exact h') (by kernel_rfl)), trivial⟩ [(2, (.ref 1002 0)), (4, (.ref 1004 0)), (5, (vI ((ln : Nat) : Int))), (7, (.ref 1023 0)), (8, (vS (joinS (polW (nth b.Policies (i2 + 1)))))), (9, (vS (restS c b (i2 + 1) 0))), (10, (vB true))] [(1002, a'6), (1004, a'7), (1023, a'44), (2001, a'46), (2002, a'47)] (by kernel_rfl) (by kernel_rfl) ?_
    refine AWp.seq ?_
    refine AWp.s_reg hGn hGk (aa 2) (Man.aa _ _) [(2, (.ref 1002 0)), (4, (.ref 1004 0)), (5, (vI ((ln : Nat) : Int))), (7, (.ref 1023 0)), (8, (vS (joinS (polW (nth b.Policies (i2 + 1)))))), (9, (vS (restS c b (i2 + 1) 0))), (35, (vB false))] [(1002, a'6), (1004, a'7), (1023, a'44), (2001, a'46), (2002, a'47)] (by kernel_rfl) (by kernel_rfl) ?_
    refine AWp.cond_false rfl ?_
    refine AWp.skip ?_
    refine nextQ_normal ?_
    refine AWp.seq ?_
    have e8 : (nth b.Policies i2).Steps.take k = (nth b.Policies i2).Steps := List.take_of_length_le (by omega)
    refine AWp.cast (show (mk [(2, (.ref 1002 0)), (4, (.ref 1004 0)), (5, (vI ((ln : Nat) : Int))), (7, (.ref 1023 0)), (8, (vS (joinS (polW (nth b.Policies (i2 + 1)))))), (9, (vS (restS c b (i2 + 1) 0))), (35, (vB false))] [(1002, (.box [(.p (.sl false 3 (c.Zones.map D.Zone.cells))), (.p (.sl false 6 (c.People.map D.Person.cells))), (.p (.sl false 3 (c.Calendars.map D.Calendar.cells))), (.p (.sl false 3 (c.Schedules.map D.Schedule.cells)))])), (1004, (.box [(.p (.sl true 0 [])), (.p (.sl true 0 []))])), (1023, (.box [(.p (.sl false 3 (c.Zones.map D.Zone.cells))), (.p (.sl false 6 (c.People.map D.Person.cells))), (.p (.sl false 3 (c.Calendars.map D.Calendar.cells))), (.p (.sl false 3 (c.Schedules.map D.Schedule.cells))), (.p (.sl false 2 (b.Teams.map D.Team.cells))), (.own 2001 (((b.Policies.take (i2 + 1)).map D.Policy.cells).length))])), (2001, (.hole 3 ((b.Policies.take i2).map D.Policy.cells) [(vS ((nth b.Policies i2).Name)), (.own 2002 ((((nth b.Policies i2).Steps.take k).map D.PolicyStep.cells).length)), (vI ((nth b.Policies i2).Repeat))] [])), (2002, (.arr 3 (((nth b.Policies i2).Steps.take k).map D.PolicyStep.cells)))]) = (mk [(2, (.ref 1002 0)), (4, (.ref 1004 0)), (5, (vI ((ln : Nat) : Int))), (7, (.ref 1023 0)), (8, (vS (joinS (polW (nth b.Policies (i2 + 1)))))), (9, (vS (restS c b (i2 + 1) 0))), (35, (vB false))] [(1002, (.box [(.p (.sl false 3 (c.Zones.map D.Zone.cells))), (.p (.sl false 6 (c.People.map D.Person.cells))), (.p (.sl false 3 (c.Calendars.map D.Calendar.cells))), (.p (.sl false 3 (c.Schedules.map D.Schedule.cells)))])), (1004, (.box [(.p (.sl true 0 [])), (.p (.sl true 0 []))])), (1023, (.box [(.p (.sl false 3 (c.Zones.map D.Zone.cells))), (.p (.sl false 6 (c.People.map D.Person.cells))), (.p (.sl false 3 (c.Calendars.map D.Calendar.cells))), (.p (.sl false 3 (c.Schedules.map D.Schedule.cells))), (.p (.sl false 2 (b.Teams.map D.Team.cells))), (.own 2001 (((b.Policies.take (i2 + 1)).map D.Policy.cells).length))])), (2001, (.hole 3 ((b.Policies.take i2).map D.Policy.cells) [(vS ((nth b.Policies i2).Name)), (.own 2002 ((((nth b.Policies i2).Steps).map D.PolicyStep.cells).length)), (vI ((nth b.Policies i2).Repeat))] [])), (2002, (.arr 3 (((nth b.Policies i2).Steps).map D.PolicyStep.cells)))]) from (by rw [e8])) ?_
    refine AWp.weaken (mk [(2, (.ref 1002 0)), (4, (.ref 1004 0)), (5, (vI ((ln : Nat) : Int))), (7, (.ref 1023 0)), (8, (vS (joinS (polW (nth b.Policies (i2 + 1)))))), (9, (vS (restS c b (i2 + 1) 0))), (35, (vB false))] [(2002, (.arr 3 (((nth b.Policies i2).Steps).map D.PolicyStep.cells))), (1002, a'6), (1004, a'7), (1023, a'44), (2001, (.hole 3 ((b.Policies.take i2).map D.Policy.cells) [(vS ((nth b.Policies i2).Name)), (.own 2002 ((((nth b.Policies i2).Steps).map D.PolicyStep.cells).length)), (vI ((nth b.Policies i2).Repeat))] []))]) (Weak.sub' hGk (by kernel_rfl)) ?_
    refine AWp.weaken (mk [(2, (.ref 1002 0)), (4, (.ref 1004 0)), (5, (vI ((ln : Nat) : Int))), (7, (.ref 1023 0)), (8, (vS (joinS (polW (nth b.Policies (i2 + 1)))))), (9, (vS (restS c b (i2 + 1) 0))), (35, (vB false))] [(1002, a'6), (1004, a'7), (1023, a'44), (2001, (.hole 3 ((b.Policies.take i2).map D.Policy.cells) [(vS ((nth b.Policies i2).Name)), (.p (.sl false 3 (((nth b.Policies i2).Steps).map D.PolicyStep.cells))), (vI ((nth b.Policies i2).Repeat))] []))]) (Weak.freeze (n := 2002) (es := 3) (rows := (((nth b.Policies i2).Steps).map D.PolicyStep.cells)) (by rw [hGk]; decide) ⟨rfl, (.same rfl), ⟨rfl, (.same rfl), ⟨rfl, (.same rfl), ⟨rfl, (.same rfl), ⟨rfl, (.same rfl), ⟨rfl, (.same rfl), ⟨rfl, (.same rfl), trivial⟩⟩⟩⟩⟩⟩⟩ ⟨rfl, by decide, (.same rfl), ⟨rfl, by decide, (.same rfl), ⟨rfl, by decide, (.same rfl), ⟨rfl, by decide, (.hole (.cons (.same rfl) (.cons .own (.cons (.same rfl) .nil)))), trivial⟩⟩⟩⟩) ?_
    let a'48 : AO := (.arr 3 ((b.Policies.take (i2 + 1)).map D.Policy.cells))
    refine AWp.weaken (mk [(2, (.ref 1002 0)), (4, (.ref 1004 0)), (5, (vI ((ln : Nat) : Int))), (7, (.ref 1023 0)), (8, (vS (joinS (polW (nth b.Policies (i2 + 1)))))), (9, (vS (restS c b (i2 + 1) 0))), (35, (vB false))] [(1002, a'6), (1004, a'7), (1023, a'44), (2001, a'48)]) (Weak.le ⟨rfl, .refl _, ⟨rfl, .refl _, ⟨rfl, .refl _, ⟨rfl, .refl _, ⟨rfl, .refl _, ⟨rfl, .refl _, ⟨rfl, .refl _, trivial⟩⟩⟩⟩⟩⟩⟩ ⟨rfl, .refl _, ⟨rfl, .refl _, ⟨rfl, .refl _, ⟨rfl, (.unfocus (take_map_snoc (f := D.Policy.cells) (by omega)).symm rfl), trivial⟩⟩⟩⟩) ?_
    let a'49 : AV := (.own 2001 (((b.Policies.take (i2 + 1 + 1)).map D.Policy.cells).length))
    let a'50 : AO := (.box [a'1, a'2, a'3, a'4, a'42, a'49])
    let a'51 : AO := (.hole 3 ((b.Policies.take (i2 + 1)).map D.Policy.cells) [(vS ((nth b.Policies (i2 + 1)).Name)), (.p (.sl true 0 [])), (vI ((nth b.Policies (i2 + 1)).Repeat))] [])
    refine AWp.s_reg hGn hGk [.a, .a, .m (some 40) ⟨[(38, (.ref 1023 0)), (39, (vS (joinS (polW (nth b.Policies (i2 + 1))))))], [(1023, a'44), (2001, a'48)], (vI 0), [(1023, a'50), (2001, a'51)], []⟩, .a] ⟨StepOK.p rfl rfl rfl (OpOK.call rfl (by kernel_rfl) rfl (rd_line_pol c b h hb (i2 + 1) (by omega) (polW (nth b.Policies (i2 + 1))) rfl (polW_wd (hb.pname (i2 + 1) (by assumption)) (hb.rep (i2 + 1) (by assumption))) (show (3 : Nat) ≤ 1000 by decide) (joinPol (hb.pname (i2 + 1) (by omega)) (hb.rep (i2 + 1) (by omega)))) (by kernel_rfl)), trivial⟩ [(2, (.ref 1002 0)), (4, (.ref 1004 0)), (5, (vI ((ln : Nat) : Int))), (7, (.ref 1023 0)), (9, (vS (restS c b (i2 + 1) 0))), (11, (vI 0))] [(1002, a'6), (1004, a'7), (1023, a'50), (2001, a'51)] (by kernel_rfl) (by kernel_rfl) ?_
    refine AWp.s_reg hGn hGk (aa 2) (Man.aa _ _) [(2, (.ref 1002 0)), (4, (.ref 1004 0)), (5, (vI ((ln : Nat) : Int))), (7, (.ref 1023 0)), (9, (vS (restS c b (i2 + 1) 0))), (11, (vI 0)), (42, (vB false))] [(1002, a'6), (1004, a'7), (1023, a'50), (2001, a'51)] (by kernel_rfl) (by kernel_rfl) ?_
    refine AWp.cond_false rfl ?_
    refine AWp.skip ?_
    refine nextQ_normal ?_
    refine AWp.reg' hGn hGk (aa 2) (Man.aa _ _) [(1, (vS (restS c b (i2 + 1) 0))), (2, (.ref 1002 0)), (4, (.ref 1004 0)), (5, (vI ((ln : Nat) : Int))), (7, (.ref 1023 0))] [(1002, a'6), (1004, a'7), (1023, a'50), (2001, a'51)] (by kernel_rfl) (by kernel_rfl) ?_
    refine blockQ_normal ?_
    refine nextQ_normal ?_
    refine AWp.reg' hGn hGk [.a, .m (some 27) ⟨[(26, (vI ((ln : Nat) : Int)))], [], (vI ((ln + 1 : Nat) : Int)), [], []⟩, .a] ⟨StepOK.p rfl rfl rfl (OpOK.add rfl rfl rfl (by rw [IntWalk.i64_in _ ⟨by omega, by omega⟩]; omega)), trivial⟩ [(1, (vS (restS c b (i2 + 1) 0))), (2, (.ref 1002 0)), (4, (.ref 1004 0)), (5, (vI ((ln + 1 : Nat) : Int))), (7, (.ref 1023 0))] [(1002, a'6), (1004, a'7), (1023, a'50), (2001, a'51)] (by kernel_rfl) (by kernel_rfl) ?_
    refine nextQ_normal ⟨_, ?_, .inr (.inl ⟨(i2 + 1), (ln + 1), rfl, (by omega), (by omega), rfl⟩)⟩
    · omega
   ·skip
    let a'52 : AV := (.p (.sl false 2 (b.Teams.map D.Team.cells)))
    let a'53 : AV := (.own 2001 (((b.Policies.take (i2 + 1)).map D.Policy.cells).length))
    let a'54 : AO := (.box [a'1, a'2, a'3, a'4, a'52, a'53])
    let a'55 : AV := (.own 2002 ((((nth b.Policies i2).Steps.take k).map D.PolicyStep.cells).length))
    let a'56 : AO := (.hole 3 ((b.Policies.take i2).map D.Policy.cells) [(vS ((nth b.Policies i2).Name)), a'55, (vI ((nth b.Policies i2).Repeat))] [])
    let a'57 : AO := (.arr 3 (((nth b.Policies i2).Steps.take k).map D.PolicyStep.cells))
    refine AWp.s_reg hGn hGk [.a, .m (some 25) ⟨[(24, (vS (restS c b i2 k)))], [], (vB false), [], []⟩] ⟨StepOK.p rfl rfl rfl (OpOK.neqS rfl rfl rfl (decide_eq_false (fun hne => hne ((restS_end (by assumption)).trans (restP_end (by assumption)))))), trivial⟩ [(1, (vS (restS c b i2 k))), (2, (.ref 1002 0)), (4, (.ref 1004 0)), (5, (vI ((ln : Nat) : Int))), (7, (.ref 1023 0)), (25, (vB false))] [(1002, a'6), (1004, a'7), (1023, a'54), (2001, a'56), (2002, a'57)] (by kernel_rfl) (by kernel_rfl) ?_
    refine AWp.cond_false rfl ?_
    refine AWp.weaken (mk [(2, (.ref 1002 0)), (4, (.ref 1004 0)), (7, (.ref 1023 0))] [(1002, a'6), (1004, a'7), (1023, a'54), (2001, a'56), (2002, a'57)]) (Weak.sub' hGk (by kernel_rfl)) ?_
    refine AWp.exit ?_
    refine nextQ_exit ?_
    refine nextQ_exit ?_
    refine blockQ_exit ?_
    refine nextQ_normal ?_
    refine AWp.seq ?_
    have e8 : (nth b.Policies i2).Steps.take k = (nth b.Policies i2).Steps := List.take_of_length_le (by omega)
    refine AWp.cast (show (mk [(2, (.ref 1002 0)), (4, (.ref 1004 0)), (7, (.ref 1023 0))] [(1002, (.box [(.p (.sl false 3 (c.Zones.map D.Zone.cells))), (.p (.sl false 6 (c.People.map D.Person.cells))), (.p (.sl false 3 (c.Calendars.map D.Calendar.cells))), (.p (.sl false 3 (c.Schedules.map D.Schedule.cells)))])), (1004, (.box [(.p (.sl true 0 [])), (.p (.sl true 0 []))])), (1023, (.box [(.p (.sl false 3 (c.Zones.map D.Zone.cells))), (.p (.sl false 6 (c.People.map D.Person.cells))), (.p (.sl false 3 (c.Calendars.map D.Calendar.cells))), (.p (.sl false 3 (c.Schedules.map D.Schedule.cells))), (.p (.sl false 2 (b.Teams.map D.Team.cells))), (.own 2001 (((b.Policies.take (i2 + 1)).map D.Policy.cells).length))])), (2001, (.hole 3 ((b.Policies.take i2).map D.Policy.cells) [(vS ((nth b.Policies i2).Name)), (.own 2002 ((((nth b.Policies i2).Steps.take k).map D.PolicyStep.cells).length)), (vI ((nth b.Policies i2).Repeat))] [])), (2002, (.arr 3 (((nth b.Policies i2).Steps.take k).map D.PolicyStep.cells)))]) = (mk [(2, (.ref 1002 0)), (4, (.ref 1004 0)), (7, (.ref 1023 0))] [(1002, (.box [(.p (.sl false 3 (c.Zones.map D.Zone.cells))), (.p (.sl false 6 (c.People.map D.Person.cells))), (.p (.sl false 3 (c.Calendars.map D.Calendar.cells))), (.p (.sl false 3 (c.Schedules.map D.Schedule.cells)))])), (1004, (.box [(.p (.sl true 0 [])), (.p (.sl true 0 []))])), (1023, (.box [(.p (.sl false 3 (c.Zones.map D.Zone.cells))), (.p (.sl false 6 (c.People.map D.Person.cells))), (.p (.sl false 3 (c.Calendars.map D.Calendar.cells))), (.p (.sl false 3 (c.Schedules.map D.Schedule.cells))), (.p (.sl false 2 (b.Teams.map D.Team.cells))), (.own 2001 (((b.Policies.take (i2 + 1)).map D.Policy.cells).length))])), (2001, (.hole 3 ((b.Policies.take i2).map D.Policy.cells) [(vS ((nth b.Policies i2).Name)), (.own 2002 ((((nth b.Policies i2).Steps).map D.PolicyStep.cells).length)), (vI ((nth b.Policies i2).Repeat))] [])), (2002, (.arr 3 (((nth b.Policies i2).Steps).map D.PolicyStep.cells)))]) from (by rw [e8])) ?_
    refine AWp.weaken (mk [(2, (.ref 1002 0)), (4, (.ref 1004 0)), (7, (.ref 1023 0))] [(2002, (.arr 3 (((nth b.Policies i2).Steps).map D.PolicyStep.cells))), (1002, a'6), (1004, a'7), (1023, a'54), (2001, (.hole 3 ((b.Policies.take i2).map D.Policy.cells) [(vS ((nth b.Policies i2).Name)), (.own 2002 ((((nth b.Policies i2).Steps).map D.PolicyStep.cells).length)), (vI ((nth b.Policies i2).Repeat))] []))]) (Weak.sub' hGk (by kernel_rfl)) ?_
    refine AWp.weaken (mk [(2, (.ref 1002 0)), (4, (.ref 1004 0)), (7, (.ref 1023 0))] [(1002, a'6), (1004, a'7), (1023, a'54), (2001, (.hole 3 ((b.Policies.take i2).map D.Policy.cells) [(vS ((nth b.Policies i2).Name)), (.p (.sl false 3 (((nth b.Policies i2).Steps).map D.PolicyStep.cells))), (vI ((nth b.Policies i2).Repeat))] []))]) (Weak.freeze (n := 2002) (es := 3) (rows := (((nth b.Policies i2).Steps).map D.PolicyStep.cells)) (by rw [hGk]; decide) ⟨rfl, (.same rfl), ⟨rfl, (.same rfl), ⟨rfl, (.same rfl), trivial⟩⟩⟩ ⟨rfl, by decide, (.same rfl), ⟨rfl, by decide, (.same rfl), ⟨rfl, by decide, (.same rfl), ⟨rfl, by decide, (.hole (.cons (.same rfl) (.cons .own (.cons (.same rfl) .nil)))), trivial⟩⟩⟩⟩) ?_
    let a'58 : AO := (.arr 3 ((b.Policies.take (i2 + 1)).map D.Policy.cells))
    refine AWp.weaken (mk [(2, (.ref 1002 0)), (4, (.ref 1004 0)), (7, (.ref 1023 0))] [(1002, a'6), (1004, a'7), (1023, a'54), (2001, a'58)]) (Weak.le ⟨rfl, .refl _, ⟨rfl, .refl _, ⟨rfl, .refl _, trivial⟩⟩⟩ ⟨rfl, .refl _, ⟨rfl, .refl _, ⟨rfl, .refl _, ⟨rfl, (.unfocus (take_map_snoc (f := D.Policy.cells) (by omega)).symm rfl), trivial⟩⟩⟩⟩) ?_
    have e9 : b.Policies.take (i2 + 1) = b.Policies := List.take_of_length_le (by omega)
    refine AWp.cast (show (mk [(2, (.ref 1002 0)), (4, (.ref 1004 0)), (7, (.ref 1023 0))] [(1002, (.box [(.p (.sl false 3 (c.Zones.map D.Zone.cells))), (.p (.sl false 6 (c.People.map D.Person.cells))), (.p (.sl false 3 (c.Calendars.map D.Calendar.cells))), (.p (.sl false 3 (c.Schedules.map D.Schedule.cells)))])), (1004, (.box [(.p (.sl true 0 [])), (.p (.sl true 0 []))])), (1023, (.box [(.p (.sl false 3 (c.Zones.map D.Zone.cells))), (.p (.sl false 6 (c.People.map D.Person.cells))), (.p (.sl false 3 (c.Calendars.map D.Calendar.cells))), (.p (.sl false 3 (c.Schedules.map D.Schedule.cells))), (.p (.sl false 2 (b.Teams.map D.Team.cells))), (.own 2001 (((b.Policies.take (i2 + 1)).map D.Policy.cells).length))])), (2001, (.arr 3 ((b.Policies.take (i2 + 1)).map D.Policy.cells)))]) = (mk [(2, (.ref 1002 0)), (4, (.ref 1004 0)), (7, (.ref 1023 0))] [(1002, (.box [(.p (.sl false 3 (c.Zones.map D.Zone.cells))), (.p (.sl false 6 (c.People.map D.Person.cells))), (.p (.sl false 3 (c.Calendars.map D.Calendar.cells))), (.p (.sl false 3 (c.Schedules.map D.Schedule.cells)))])), (1004, (.box [(.p (.sl true 0 [])), (.p (.sl true 0 []))])), (1023, (.box [(.p (.sl false 3 (c.Zones.map D.Zone.cells))), (.p (.sl false 6 (c.People.map D.Person.cells))), (.p (.sl false 3 (c.Calendars.map D.Calendar.cells))), (.p (.sl false 3 (c.Schedules.map D.Schedule.cells))), (.p (.sl false 2 (b.Teams.map D.Team.cells))), (.own 2001 ((b.Policies.map D.Policy.cells).length))])), (2001, (.arr 3 (b.Policies.map D.Policy.cells)))]) from (by rw [e9])) ?_
    refine AWp.weaken (mk [(2, (.ref 1002 0)), (4, (.ref 1004 0)), (7, (.ref 1023 0))] [(2001, (.arr 3 (b.Policies.map D.Policy.cells))), (1002, a'6), (1004, a'7), (1023, (.box [a'1, a'2, a'3, a'4, a'52, (.own 2001 ((b.Policies.map D.Policy.cells).length))]))]) (Weak.sub' hGk (by kernel_rfl)) ?_
    let a'59 : AV := (.p (.sl false 3 (b.Policies.map D.Policy.cells)))
    let a'60 : AO := (.box [a'1, a'2, a'3, a'4, a'52, a'59])
    refine AWp.weaken (mk [(2, (.ref 1002 0)), (4, (.ref 1004 0)), (7, (.ref 1023 0))] [(1002, a'6), (1004, a'7), (1023, a'60)]) (Weak.freeze (n := 2001) (es := 3) (rows := (b.Policies.map D.Policy.cells)) (by rw [hGk]; decide) ⟨rfl, (.same rfl), ⟨rfl, (.same rfl), ⟨rfl, (.same rfl), trivial⟩⟩⟩ ⟨rfl, by decide, (.same rfl), ⟨rfl, by decide, (.same rfl), ⟨rfl, by decide, (.box (.cons (.same rfl) (.cons (.same rfl) (.cons (.same rfl) (.cons (.same rfl) (.cons (.same rfl) (.cons .own .nil))))))), trivial⟩⟩⟩) ?_
    refine AWp.s_dreg hGn hGk (by kernel_rfl) [.a, .a, .a, .a, .a, .m (some 52) ⟨[(47, a'5), (51, (.agg [a'52, a'59]))], [], (vI 0), [], []⟩, .a] ⟨StepOK.p rfl rfl rfl (OpOK.call rfl (by kernel_rfl) rfl (by have h' := pol_Check c b (by rw [h.plen]; decide) (by rw [h.slen]; decide) hb.memle (res_Check c h); rw [h.plen, h.slen, hv] at h'; exact h') (by kernel_rfl)), trivial⟩ [(4, (.ref 1004 0)), (7, (.ref 1023 0)), (12, (vI 0))] [(1004, a'7), (1023, a'60)] (by kernel_rfl) (by kernel_rfl) (by kernel_rfl) ?_
    refine AWp.s_reg hGn hGk (aa 2) (Man.aa _ _) [(4, (.ref 1004 0)), (7, (.ref 1023 0)), (12, (vI 0)), (54, (vB false))] [(1004, a'7), (1023, a'60)] (by kernel_rfl) (by kernel_rfl) ?_
    refine AWp.cond_false rfl ?_
    refine AWp.skip ?_
    refine nextQ_normal ?_
    refine AWp.s_reg hGn hGk (aa 7) (Man.aa _ _) [(4, (.ref 1004 0)), (5, (vI 0)), (6, (vI 0))] [(1004, (.box [a'52, a'59]))] (by kernel_rfl) (by kernel_rfl) ?_
    refine AWp.ret ?_
    refine fin_of (.inr rfl) (v := (.tup [(.agg [(.p (.sl false 2 (b.Teams.map D.Team.cells))), (.p (.sl false 3 (b.Policies.map D.Policy.cells)))]), (vI 0), (vI 0)])) (Res.many (by kernel_rfl) (Res1s.cons (Res1.agg rfl rfl (by kernel_rfl) (by kernel_rfl)) (Res1s.cons (Res1.tmp rfl) (Res1s.cons (Res1.tmp rfl) Res1s.nil)))) (h' := []) rfl rfl ?_
    exact ⟨rfl, rfl⟩
theorem ref_Same1 (l : List Int) (hl : l.length ≤ 1000000) :
    SpecIs Tryz.prog 64 [(.p (.sl false 1 (l.map D.cInt))), (.p (.sl false 1 (l.map D.cInt)))] [] (vB true) [] := by
 refine Spec.intro Tryz.func64 rfl (by kernel_rfl) ?_
 intro Γ hGn hGk
 replace hGn : Γ.n = 26 := hGn
 replace hGk : Γ.names = [] := hGk
 refine AWp.weaken (mk [(0, (.p (.sl false 1 (l.map D.cInt)))), (1, (.p (.sl false 1 (l.map D.cInt))))] []) (Weak.sub' hGk (by kernel_rfl)) ?_
 refine AWp.s_reg hGn hGk (aa 1) (Man.aa _ _) [(0, (.p (.sl false 1 (l.map D.cInt)))), (1, (.p (.sl false 1 (l.map D.cInt))))] [] (by kernel_rfl) (by kernel_rfl) ?_
 refine AWp.seq ?_
 refine AWp.s_reg hGn hGk [.a, .m (some 7) ⟨[(6, (.p (.sl false 1 (l.map D.cInt))))], [], (vI ((l.length : Nat) : Int)), [], []⟩, .a, .m (some 9) ⟨[(8, (.p (.sl false 1 (l.map D.cInt))))], [], (vI ((l.length : Nat) : Int)), [], []⟩, .m (some 10) ⟨[(7, (vI ((l.length : Nat) : Int))), (9, (vI ((l.length : Nat) : Int)))], [], (vB false), [], []⟩] ⟨StepOK.p rfl rfl rfl (OpOK.lenP (e := 3) rfl rfl (by kernel_rfl) rfl (by rw [List.length_map])),
  StepOK.p rfl rfl rfl (OpOK.lenP (e := 3) rfl rfl (by kernel_rfl) rfl (by rw [List.length_map])),
  StepOK.p rfl rfl rfl (OpOK.neqI rfl rfl rfl (decide_eq_false (fun h => h rfl))), trivial⟩ [(0, (.p (.sl false 1 (l.map D.cInt)))), (1, (.p (.sl false 1 (l.map D.cInt)))), (10, (vB false))] [] (by kernel_rfl) (by kernel_rfl) ?_
 refine AWp.cond_false rfl ?_
 refine AWp.skip ?_
 refine nextQ_normal ?_
 refine AWp.seq ?_
 refine AWp.s_reg hGn hGk (aa 1) (Man.aa _ _) [(0, (.p (.sl false 1 (l.map D.cInt)))), (1, (.p (.sl false 1 (l.map D.cInt)))), (5, (vI 0))] [] (by kernel_rfl) (by kernel_rfl) ?_
 refine AWp.block ?_
 refine AWp.loop (fun m s => ∃ i, s = (mk [(0, (.p (.sl false 1 (l.map D.cInt)))), (1, (.p (.sl false 1 (l.map D.cInt)))), (5, (vI ((i : Nat) : Int)))] []) ∧ (i ≤ l.length) ∧ m = (l.length - i))
  ⟨_, 0, rfl, (by omega), rfl⟩ ?_
 rintro mm1 s ⟨i, rfl, hi, hmm1⟩
 refine AWp.seq ?_
 refine AWp.s_reg hGn hGk [.a, .a, .m (some 13) ⟨[(12, (.p (.sl false 1 (l.map D.cInt))))], [], (vI ((l.length : Nat) : Int)), [], []⟩, .a] ⟨StepOK.p rfl rfl rfl (OpOK.lenP (e := 3) rfl rfl (by kernel_rfl) rfl (by rw [List.length_map])), trivial⟩ [(0, (.p (.sl false 1 (l.map D.cInt)))), (1, (.p (.sl false 1 (l.map D.cInt)))), (5, (vI ((i : Nat) : Int))), (14, (vB (decide (((i : Nat) : Int) < ((l.length : Nat) : Int)))))] [] (by kernel_rfl) (by kernel_rfl) ?_
 refine AWp.cond (decide (((i : Nat) : Int) < ((l.length : Nat) : Int))) rfl (fun hc2 => ?_) (fun hc2 => ?_)
 ·skip
  replace hc2 := of_decide_eq_true hc2
  refine AWp.skip ?_
  refine nextQ_normal ?_
  refine AWp.seq ?_
  refine AWp.block ?_
  refine AWp.s_dreg hGn hGk (by kernel_rfl) [.a, .a, .m (some 19) ⟨[(17, (.p (.sl false 1 (l.map D.cInt)))), (18, (vI ((i : Nat) : Int)))], [], (.eptr [(pI (nth l i))]), [], []⟩, .a, .a, .a, .m (some 23) ⟨[(21, (.p (.sl false 1 (l.map D.cInt)))), (22, (vI ((i : Nat) : Int)))], [], (.eptr [(pI (nth l i))]), [], []⟩, .a, .m (some 25) ⟨[(20, (vI (nth l i))), (24, (vI (nth l i)))], [], (vB false), [], []⟩] ⟨StepOK.p rfl rfl rfl (OpOK.indexP (e := 3) rfl (by kernel_rfl) (by kernel_rfl) rfl rfl rfl (map_nth (by omega))),
   StepOK.p rfl rfl rfl (OpOK.indexP (e := 3) rfl (by kernel_rfl) (by kernel_rfl) rfl rfl rfl (map_nth (by omega))),
   StepOK.p rfl rfl rfl (OpOK.neqI rfl rfl rfl (decide_eq_false (fun h => h rfl))), trivial⟩ [(0, (.p (.sl false 1 (l.map D.cInt)))), (1, (.p (.sl false 1 (l.map D.cInt)))), (5, (vI ((i : Nat) : Int))), (25, (vB false))] [] (by kernel_rfl) (by kernel_rfl) (by kernel_rfl) ?_
  refine AWp.cond_false rfl ?_
  refine AWp.skip ?_
  refine blockQ_normal ?_
  refine nextQ_normal ?_
  refine AWp.reg' hGn hGk [.a, .m (some 16) ⟨[(15, (vI ((i : Nat) : Int)))], [], (vI ((i + 1 : Nat) : Int)), [], []⟩, .a] ⟨StepOK.p rfl rfl rfl (OpOK.add rfl rfl rfl (by rw [IntWalk.i64_in _ ⟨by omega, by omega⟩]; omega)), trivial⟩ [(0, (.p (.sl false 1 (l.map D.cInt)))), (1, (.p (.sl false 1 (l.map D.cInt)))), (5, (vI ((i + 1 : Nat) : Int)))] [] (by kernel_rfl) (by kernel_rfl) ?_
  refine nextQ_normal ⟨_, ?_, (i + 1), rfl, (by omega), rfl⟩
  · omega
 ·skip
  replace hc2 := of_decide_eq_false hc2
  refine AWp.weaken (mk [] []) (Weak.sub' hGk (by kernel_rfl)) ?_
  refine AWp.exit ?_
  refine nextQ_exit ?_
  refine nextQ_exit ?_
  refine blockQ_exit ?_
  refine nextQ_normal ?_
  refine AWp.s_reg hGn hGk (aa 1) (Man.aa _ _) [(4, (vB true))] [] (by kernel_rfl) (by kernel_rfl) ?_
  refine AWp.ret ?_
  refine fin_of (.inr rfl) (v := (vB true)) (Res.tmp rfl rfl) (h' := []) rfl rfl ?_
  exact ⟨rfl, rfl⟩
theorem ref_SameBook (b : D.Book) (hb : BookV b) :
    SpecIs Tryz.prog 34 [(.agg [(.p (.sl false 2 (b.Teams.map D.Team.cells))), (.p (.sl false 3 (b.Policies.map D.Policy.cells)))]), (.agg [(.p (.sl false 2 (b.Teams.map D.Team.cells))), (.p (.sl false 3 (b.Policies.map D.Policy.cells)))])] [] (vB true) [] := by
 refine Spec.intro Tryz.func34 rfl (by kernel_rfl) ?_
 intro Γ hGn hGk
 replace hGn : Γ.n = 159 := hGn
 replace hGk : Γ.names = [] := hGk
 have htl := hb.tlen
 have hpp := hb.plen
 let a'1 : AV := (.p (.sl false 2 (b.Teams.map D.Team.cells)))
 let a'2 : AV := (.p (.sl false 3 (b.Policies.map D.Policy.cells)))
 refine AWp.weaken (mk [(0, (.agg [a'1, a'2])), (1, (.agg [a'1, a'2]))] []) (Weak.sub' hGk (by kernel_rfl)) ?_
 let a'3 : AO := (.box [a'1, a'2])
 refine AWp.s_reg hGn hGk (aa 3) (Man.aa _ _) [(2, (.ref 1002 0)), (3, (.ref 1003 0))] [(1002, a'3), (1003, a'3)] (by kernel_rfl) (by kernel_rfl) ?_
 refine AWp.seq ?_
 refine AWp.s_reg hGn hGk [.a, .a, .m (some 15) ⟨[(14, a'1)], [], (vI ((b.Teams.length : Nat) : Int)), [], []⟩, .a, .a, .m (some 18) ⟨[(17, a'1)], [], (vI ((b.Teams.length : Nat) : Int)), [], []⟩, .m (some 19) ⟨[(15, (vI ((b.Teams.length : Nat) : Int))), (18, (vI ((b.Teams.length : Nat) : Int)))], [], (vB false), [], []⟩, .a, .a, .a, .m (some 23) ⟨[(22, a'2), (20, (vB false))], [], (vI ((b.Policies.length : Nat) : Int)), [], []⟩, .a, .a, .m (some 26) ⟨[(25, a'2), (20, (vB false))], [], (vI ((b.Policies.length : Nat) : Int)), [], []⟩, .m (some 27) ⟨[(23, (vI ((b.Policies.length : Nat) : Int))), (26, (vI ((b.Policies.length : Nat) : Int))), (20, (vB false))], [], (vB false), [], []⟩, .a] ⟨StepOK.p rfl rfl rfl (OpOK.lenP (e := 111) rfl rfl (by kernel_rfl) rfl (by rw [List.length_map])),
  StepOK.p rfl rfl rfl (OpOK.lenP (e := 111) rfl rfl (by kernel_rfl) rfl (by rw [List.length_map])),
  StepOK.p rfl rfl rfl (OpOK.neqI rfl rfl rfl (decide_eq_false (fun h => h rfl))),
  StepOK.g rfl rfl rfl rfl rfl (by simp) (OpOK.lenP (e := 106) rfl rfl (by kernel_rfl) rfl (by rw [List.length_map])),
  StepOK.g rfl rfl rfl rfl rfl (by simp) (OpOK.lenP (e := 106) rfl rfl (by kernel_rfl) rfl (by rw [List.length_map])),
  StepOK.g rfl rfl rfl rfl rfl (by simp) (OpOK.neqI rfl rfl rfl (decide_eq_false (fun h => h rfl))), trivial⟩ [(2, (.ref 1002 0)), (3, (.ref 1003 0)), (28, (vB false))] [(1002, a'3), (1003, a'3)] (by kernel_rfl) (by kernel_rfl) ?_
 refine AWp.cond_false rfl ?_
 refine AWp.skip ?_
 refine nextQ_normal ?_
 refine AWp.seq ?_
 refine AWp.s_reg hGn hGk (aa 1) (Man.aa _ _) [(2, (.ref 1002 0)), (3, (.ref 1003 0)), (5, (vI 0))] [(1002, a'3), (1003, a'3)] (by kernel_rfl) (by kernel_rfl) ?_
 refine AWp.block ?_
 refine AWp.loop (fun m s => ∃ i, s = (mk [(2, (.ref 1002 0)), (3, (.ref 1003 0)), (5, (vI ((i : Nat) : Int)))] [(1002, (.box [(.p (.sl false 2 (b.Teams.map D.Team.cells))), (.p (.sl false 3 (b.Policies.map D.Policy.cells)))])), (1003, (.box [(.p (.sl false 2 (b.Teams.map D.Team.cells))), (.p (.sl false 3 (b.Policies.map D.Policy.cells)))]))]) ∧ (i ≤ b.Teams.length) ∧ m = (b.Teams.length - i))
  ⟨_, 0, rfl, (by omega), rfl⟩ ?_
 rintro mm1 s ⟨i, rfl, hi, hmm1⟩
 refine AWp.seq ?_
 refine AWp.s_reg hGn hGk [.a, .a, .a, .m (some 32) ⟨[(31, a'1)], [], (vI ((b.Teams.length : Nat) : Int)), [], []⟩, .a] ⟨StepOK.p rfl rfl rfl (OpOK.lenP (e := 111) rfl rfl (by kernel_rfl) rfl (by rw [List.length_map])), trivial⟩ [(2, (.ref 1002 0)), (3, (.ref 1003 0)), (5, (vI ((i : Nat) : Int))), (33, (vB (decide (((i : Nat) : Int) < ((b.Teams.length : Nat) : Int)))))] [(1002, a'3), (1003, a'3)] (by kernel_rfl) (by kernel_rfl) ?_
 refine AWp.cond (decide (((i : Nat) : Int) < ((b.Teams.length : Nat) : Int))) rfl (fun hc2 => ?_) (fun hc2 => ?_)
 ·skip
  replace hc2 := of_decide_eq_true hc2
  refine AWp.skip ?_
  refine nextQ_normal ?_
  refine AWp.seq ?_
  refine AWp.block ?_
  refine AWp.s_dreg hGn hGk (by kernel_rfl) [.a, .a, .a, .m (some 39) ⟨[(37, a'1), (38, (vI ((i : Nat) : Int)))], [], (.eptr [(pS ((nth b.Teams i).Name)), (.sl false 1 (((nth b.Teams i).Members).map D.cInt))]), [], []⟩, .a, .a, .a, .a, .a, .m (some 45) ⟨[(43, a'1), (44, (vI ((i : Nat) : Int)))], [], (.eptr [(pS ((nth b.Teams i).Name)), (.sl false 1 (((nth b.Teams i).Members).map D.cInt))]), [], []⟩, .a, .a, .m (some 48) ⟨[(41, (vS ((nth b.Teams i).Name))), (47, (vS ((nth b.Teams i).Name)))], [], (vB false), [], []⟩, .a, .a, .a, .a, .m (some 53) ⟨[(51, a'1), (52, (vI ((i : Nat) : Int))), (49, (vB false))], [], (.eptr [(pS ((nth b.Teams i).Name)), (.sl false 1 (((nth b.Teams i).Members).map D.cInt))]), [], []⟩, .a, .a, .a, .a, .a, .m (some 59) ⟨[(57, a'1), (58, (vI ((i : Nat) : Int))), (49, (vB false))], [], (.eptr [(pS ((nth b.Teams i).Name)), (.sl false 1 (((nth b.Teams i).Members).map D.cInt))]), [], []⟩, .a, .a, .m (some 62) ⟨[(55, (.p (.sl false 1 (((nth b.Teams i).Members).map D.cInt)))), (61, (.p (.sl false 1 (((nth b.Teams i).Members).map D.cInt)))), (49, (vB false))], [], (vB true), [], []⟩, .a, .a] ⟨StepOK.p rfl rfl rfl (OpOK.indexP (e := 111) rfl (by kernel_rfl) (by kernel_rfl) rfl rfl rfl (map_nth (by omega))),
   StepOK.p rfl rfl rfl (OpOK.indexP (e := 111) rfl (by kernel_rfl) (by kernel_rfl) rfl rfl rfl (map_nth (by omega))),
   StepOK.p rfl rfl rfl (OpOK.neqS rfl rfl rfl (decide_eq_false (fun h => h rfl))),
   StepOK.g rfl rfl rfl rfl rfl (by simp) (OpOK.indexP (e := 111) rfl (by kernel_rfl) (by kernel_rfl) rfl rfl rfl (map_nth (by omega))),
   StepOK.g rfl rfl rfl rfl rfl (by simp) (OpOK.indexP (e := 111) rfl (by kernel_rfl) (by kernel_rfl) rfl rfl rfl (map_nth (by omega))),
   StepOK.g rfl rfl rfl rfl rfl (by simp) (OpOK.call rfl (by kernel_rfl) rfl (ref_Same1 ((nth b.Teams i).Members) (by have := hb.mlen i (by omega); omega)) (by kernel_rfl)), trivial⟩ [(2, (.ref 1002 0)), (3, (.ref 1003 0)), (5, (vI ((i : Nat) : Int))), (64, (vB false))] [(1002, a'3), (1003, a'3)] (by kernel_rfl) (by kernel_rfl) (by kernel_rfl) ?_
  refine AWp.cond_false rfl ?_
  refine AWp.skip ?_
  refine blockQ_normal ?_
  refine nextQ_normal ?_
  refine AWp.reg' hGn hGk [.a, .m (some 35) ⟨[(34, (vI ((i : Nat) : Int)))], [], (vI ((i + 1 : Nat) : Int)), [], []⟩, .a] ⟨StepOK.p rfl rfl rfl (OpOK.add rfl rfl rfl (by rw [IntWalk.i64_in _ ⟨by omega, by omega⟩]; omega)), trivial⟩ [(2, (.ref 1002 0)), (3, (.ref 1003 0)), (5, (vI ((i + 1 : Nat) : Int)))] [(1002, a'3), (1003, a'3)] (by kernel_rfl) (by kernel_rfl) ?_
  refine nextQ_normal ⟨_, ?_, (i + 1), rfl, (by omega), rfl⟩
  · omega
 ·skip
  replace hc2 := of_decide_eq_false hc2
  refine AWp.weaken (mk [(2, (.ref 1002 0)), (3, (.ref 1003 0))] [(1002, a'3), (1003, a'3)]) (Weak.sub' hGk (by kernel_rfl)) ?_
  refine AWp.exit ?_
  refine nextQ_exit ?_
  refine nextQ_exit ?_
  refine blockQ_exit ?_
  refine nextQ_normal ?_
  refine AWp.seq ?_
  refine AWp.s_reg hGn hGk (aa 1) (Man.aa _ _) [(2, (.ref 1002 0)), (3, (.ref 1003 0)), (6, (vI 0))] [(1002, a'3), (1003, a'3)] (by kernel_rfl) (by kernel_rfl) ?_
  refine AWp.block ?_
  refine AWp.loop (fun m s => ∃ i2, s = (mk [(2, (.ref 1002 0)), (3, (.ref 1003 0)), (6, (vI ((i2 : Nat) : Int)))] [(1002, (.box [(.p (.sl false 2 (b.Teams.map D.Team.cells))), (.p (.sl false 3 (b.Policies.map D.Policy.cells)))])), (1003, (.box [(.p (.sl false 2 (b.Teams.map D.Team.cells))), (.p (.sl false 3 (b.Policies.map D.Policy.cells)))]))]) ∧ (i2 ≤ b.Policies.length) ∧ m = (b.Policies.length - i2))
   ⟨_, 0, rfl, (by omega), rfl⟩ ?_
  rintro mm3 s ⟨i2, rfl, hi2, hmm3⟩
  refine AWp.seq ?_
  refine AWp.s_reg hGn hGk [.a, .a, .a, .m (some 68) ⟨[(67, a'2)], [], (vI ((b.Policies.length : Nat) : Int)), [], []⟩, .a] ⟨StepOK.p rfl rfl rfl (OpOK.lenP (e := 106) rfl rfl (by kernel_rfl) rfl (by rw [List.length_map])), trivial⟩ [(2, (.ref 1002 0)), (3, (.ref 1003 0)), (6, (vI ((i2 : Nat) : Int))), (69, (vB (decide (((i2 : Nat) : Int) < ((b.Policies.length : Nat) : Int)))))] [(1002, a'3), (1003, a'3)] (by kernel_rfl) (by kernel_rfl) ?_
  refine AWp.cond (decide (((i2 : Nat) : Int) < ((b.Policies.length : Nat) : Int))) rfl (fun hc4 => ?_) (fun hc4 => ?_)
  ·skip
   replace hc4 := of_decide_eq_true hc4
   refine AWp.skip ?_
   refine nextQ_normal ?_
   refine AWp.seq ?_
   refine AWp.block ?_
   let a'4 : AV := (.p (.sl false 3 (((nth b.Policies i2).Steps).map D.PolicyStep.cells)))
   let a'5 : AO := (.box [(vS ((nth b.Policies i2).Name)), a'4, (vI ((nth b.Policies i2).Repeat))])
   refine AWp.s_dreg hGn hGk (by kernel_rfl) [.a, .a, .a, .m (some 75) ⟨[(73, a'2), (74, (vI ((i2 : Nat) : Int)))], [], (.eptr [(pS ((nth b.Policies i2).Name)), (.sl false 3 (((nth b.Policies i2).Steps).map D.PolicyStep.cells)), (pI ((nth b.Policies i2).Repeat))]), [], []⟩, .a, .a, .a, .a, .m (some 80) ⟨[(78, a'2), (79, (vI ((i2 : Nat) : Int)))], [], (.eptr [(pS ((nth b.Policies i2).Name)), (.sl false 3 (((nth b.Policies i2).Steps).map D.PolicyStep.cells)), (pI ((nth b.Policies i2).Repeat))]), [], []⟩, .a, .a, .a, .a, .a] ⟨StepOK.p rfl rfl rfl (OpOK.indexP (e := 106) rfl (by kernel_rfl) (by kernel_rfl) rfl rfl rfl (map_nth (by omega))),
    StepOK.p rfl rfl rfl (OpOK.indexP (e := 106) rfl (by kernel_rfl) (by kernel_rfl) rfl rfl rfl (map_nth (by omega))), trivial⟩ [(2, (.ref 1002 0)), (3, (.ref 1003 0)), (6, (vI ((i2 : Nat) : Int))), (7, (.ref 1007 0)), (8, (.ref 1008 0))] [(1002, a'3), (1003, a'3), (1007, a'5), (1008, a'5)] (by kernel_rfl) (by kernel_rfl) (by kernel_rfl) ?_
   refine AWp.seq ?_
   refine AWp.s_reg hGn hGk [.a, .a, .a, .a, .m (some 86) ⟨[(83, (vS ((nth b.Policies i2).Name))), (85, (vS ((nth b.Policies i2).Name)))], [], (vB false), [], []⟩, .a, .a, .a, .a, .a, .m (some 92) ⟨[(89, (vI ((nth b.Policies i2).Repeat))), (91, (vI ((nth b.Policies i2).Repeat))), (87, (vB false))], [], (vB false), [], []⟩, .a, .a, .a, .a, .m (some 97) ⟨[(96, a'4), (94, (vB false))], [], (vI ((((nth b.Policies i2).Steps).length : Nat) : Int)), [], []⟩, .a, .a, .m (some 100) ⟨[(99, a'4), (94, (vB false))], [], (vI ((((nth b.Policies i2).Steps).length : Nat) : Int)), [], []⟩, .m (some 101) ⟨[(97, (vI ((((nth b.Policies i2).Steps).length : Nat) : Int))), (100, (vI ((((nth b.Policies i2).Steps).length : Nat) : Int))), (94, (vB false))], [], (vB false), [], []⟩, .a] ⟨StepOK.p rfl rfl rfl (OpOK.neqS rfl rfl rfl (decide_eq_false (fun h => h rfl))),
    StepOK.g rfl rfl rfl rfl rfl (by simp) (OpOK.neqI rfl rfl rfl (decide_eq_false (fun h => h rfl))),
    StepOK.g rfl rfl rfl rfl rfl (by simp) (OpOK.lenP (e := 103) rfl rfl (by kernel_rfl) rfl (by rw [List.length_map])),
    StepOK.g rfl rfl rfl rfl rfl (by simp) (OpOK.lenP (e := 103) rfl rfl (by kernel_rfl) rfl (by rw [List.length_map])),
    StepOK.g rfl rfl rfl rfl rfl (by simp) (OpOK.neqI rfl rfl rfl (decide_eq_false (fun h => h rfl))), trivial⟩ [(2, (.ref 1002 0)), (3, (.ref 1003 0)), (6, (vI ((i2 : Nat) : Int))), (7, (.ref 1007 0)), (8, (.ref 1008 0)), (102, (vB false))] [(1002, a'3), (1003, a'3), (1007, a'5), (1008, a'5)] (by kernel_rfl) (by kernel_rfl) ?_
   refine AWp.cond_false rfl ?_
   refine AWp.skip ?_
   refine nextQ_normal ?_
   refine AWp.s_reg hGn hGk (aa 1) (Man.aa _ _) [(2, (.ref 1002 0)), (3, (.ref 1003 0)), (6, (vI ((i2 : Nat) : Int))), (7, (.ref 1007 0)), (8, (.ref 1008 0)), (9, (vI 0))] [(1002, a'3), (1003, a'3), (1007, a'5), (1008, a'5)] (by kernel_rfl) (by kernel_rfl) ?_
   refine AWp.block ?_
   refine AWp.loop (fun m s => ∃ k, s = (mk [(2, (.ref 1002 0)), (3, (.ref 1003 0)), (6, (vI ((i2 : Nat) : Int))), (7, (.ref 1007 0)), (8, (.ref 1008 0)), (9, (vI ((k : Nat) : Int)))] [(1002, (.box [(.p (.sl false 2 (b.Teams.map D.Team.cells))), (.p (.sl false 3 (b.Policies.map D.Policy.cells)))])), (1003, (.box [(.p (.sl false 2 (b.Teams.map D.Team.cells))), (.p (.sl false 3 (b.Policies.map D.Policy.cells)))])), (1007, (.box [(vS ((nth b.Policies i2).Name)), (.p (.sl false 3 (((nth b.Policies i2).Steps).map D.PolicyStep.cells))), (vI ((nth b.Policies i2).Repeat))])), (1008, (.box [(vS ((nth b.Policies i2).Name)), (.p (.sl false 3 (((nth b.Policies i2).Steps).map D.PolicyStep.cells))), (vI ((nth b.Policies i2).Repeat))]))]) ∧ (k ≤ (nth b.Policies i2).Steps.length) ∧ m = ((nth b.Policies i2).Steps.length - k))
    ⟨_, 0, rfl, (by omega), rfl⟩ ?_
   rintro mm5 s ⟨k, rfl, hk, hmm5⟩
   have hsl2 := hb.slen i2 (by omega)
   refine AWp.seq ?_
   refine AWp.s_reg hGn hGk [.a, .a, .a, .m (some 106) ⟨[(105, a'4)], [], (vI ((((nth b.Policies i2).Steps).length : Nat) : Int)), [], []⟩, .a] ⟨StepOK.p rfl rfl rfl (OpOK.lenP (e := 103) rfl rfl (by kernel_rfl) rfl (by rw [List.length_map])), trivial⟩ [(2, (.ref 1002 0)), (3, (.ref 1003 0)), (6, (vI ((i2 : Nat) : Int))), (7, (.ref 1007 0)), (8, (.ref 1008 0)), (9, (vI ((k : Nat) : Int))), (107, (vB (decide (((k : Nat) : Int) < ((((nth b.Policies i2).Steps).length : Nat) : Int)))))] [(1002, a'3), (1003, a'3), (1007, a'5), (1008, a'5)] (by kernel_rfl) (by kernel_rfl) ?_
   refine AWp.cond (decide (((k : Nat) : Int) < ((((nth b.Policies i2).Steps).length : Nat) : Int))) rfl (fun hc6 => ?_) (fun hc6 => ?_)
   ·skip
    replace hc6 := of_decide_eq_true hc6
    refine AWp.skip ?_
    refine nextQ_normal ?_
    refine AWp.seq ?_
    refine AWp.block ?_
    let a'6 : AV := (.p (.sl false 2 (((nth ((nth b.Policies i2).Steps) k).Targets).map D.Target.cells)))
    let a'7 : AO := (.box [(vI ((nth ((nth b.Policies i2).Steps) k).Wait)), (vB ((nth ((nth b.Policies i2).Steps) k).Urgent)), a'6])
    refine AWp.s_dreg hGn hGk (by kernel_rfl) [.a, .a, .a, .m (some 113) ⟨[(111, a'4), (112, (vI ((k : Nat) : Int)))], [], (.eptr [(pI ((nth ((nth b.Policies i2).Steps) k).Wait)), (pB ((nth ((nth b.Policies i2).Steps) k).Urgent)), (.sl false 2 (((nth ((nth b.Policies i2).Steps) k).Targets).map D.Target.cells))]), [], []⟩, .a, .a, .a, .a, .m (some 118) ⟨[(116, a'4), (117, (vI ((k : Nat) : Int)))], [], (.eptr [(pI ((nth ((nth b.Policies i2).Steps) k).Wait)), (pB ((nth ((nth b.Policies i2).Steps) k).Urgent)), (.sl false 2 (((nth ((nth b.Policies i2).Steps) k).Targets).map D.Target.cells))]), [], []⟩, .a, .a, .a, .a, .a] ⟨StepOK.p rfl rfl rfl (OpOK.indexP (e := 103) rfl (by kernel_rfl) (by kernel_rfl) rfl rfl rfl (map_nth (by omega))),
     StepOK.p rfl rfl rfl (OpOK.indexP (e := 103) rfl (by kernel_rfl) (by kernel_rfl) rfl rfl rfl (map_nth (by omega))), trivial⟩ [(2, (.ref 1002 0)), (3, (.ref 1003 0)), (6, (vI ((i2 : Nat) : Int))), (7, (.ref 1007 0)), (8, (.ref 1008 0)), (9, (vI ((k : Nat) : Int))), (10, (.ref 1010 0)), (11, (.ref 1011 0))] [(1002, a'3), (1003, a'3), (1007, a'5), (1008, a'5), (1010, a'7), (1011, a'7)] (by kernel_rfl) (by kernel_rfl) (by kernel_rfl) ?_
    refine AWp.seq ?_
    refine AWp.s_reg hGn hGk [.a, .a, .a, .a, .m (some 124) ⟨[(121, (vI ((nth ((nth b.Policies i2).Steps) k).Wait))), (123, (vI ((nth ((nth b.Policies i2).Steps) k).Wait)))], [], (vB false), [], []⟩, .a, .a, .a, .a, .a, .m (some 130) ⟨[(127, (vB ((nth ((nth b.Policies i2).Steps) k).Urgent))), (129, (vB ((nth ((nth b.Policies i2).Steps) k).Urgent))), (125, (vB false))], [], (vB false), [], []⟩, .a, .a, .a, .a, .m (some 135) ⟨[(134, a'6), (132, (vB false))], [], (vI ((((nth ((nth b.Policies i2).Steps) k).Targets).length : Nat) : Int)), [], []⟩, .a, .a, .m (some 138) ⟨[(137, a'6), (132, (vB false))], [], (vI ((((nth ((nth b.Policies i2).Steps) k).Targets).length : Nat) : Int)), [], []⟩, .m (some 139) ⟨[(135, (vI ((((nth ((nth b.Policies i2).Steps) k).Targets).length : Nat) : Int))), (138, (vI ((((nth ((nth b.Policies i2).Steps) k).Targets).length : Nat) : Int))), (132, (vB false))], [], (vB false), [], []⟩, .a] ⟨StepOK.p rfl rfl rfl (OpOK.neqI rfl rfl rfl (decide_eq_false (fun h => h rfl))),
     StepOK.g rfl rfl rfl rfl rfl (by simp) (OpOK.neqB rfl (by kernel_rfl) rfl rfl (decide_eq_false (fun h => h rfl))),
     StepOK.g rfl rfl rfl rfl rfl (by simp) (OpOK.lenP (e := 113) rfl rfl (by kernel_rfl) rfl (by rw [List.length_map])),
     StepOK.g rfl rfl rfl rfl rfl (by simp) (OpOK.lenP (e := 113) rfl rfl (by kernel_rfl) rfl (by rw [List.length_map])),
     StepOK.g rfl rfl rfl rfl rfl (by simp) (OpOK.neqI rfl rfl rfl (decide_eq_false (fun h => h rfl))), trivial⟩ [(2, (.ref 1002 0)), (3, (.ref 1003 0)), (6, (vI ((i2 : Nat) : Int))), (7, (.ref 1007 0)), (8, (.ref 1008 0)), (9, (vI ((k : Nat) : Int))), (10, (.ref 1010 0)), (11, (.ref 1011 0)), (140, (vB false))] [(1002, a'3), (1003, a'3), (1007, a'5), (1008, a'5), (1010, a'7), (1011, a'7)] (by kernel_rfl) (by kernel_rfl) ?_
    refine AWp.cond_false rfl ?_
    refine AWp.skip ?_
    refine nextQ_normal ?_
    refine AWp.s_reg hGn hGk (aa 1) (Man.aa _ _) [(2, (.ref 1002 0)), (3, (.ref 1003 0)), (6, (vI ((i2 : Nat) : Int))), (7, (.ref 1007 0)), (8, (.ref 1008 0)), (9, (vI ((k : Nat) : Int))), (10, (.ref 1010 0)), (11, (.ref 1011 0)), (12, (vI 0))] [(1002, a'3), (1003, a'3), (1007, a'5), (1008, a'5), (1010, a'7), (1011, a'7)] (by kernel_rfl) (by kernel_rfl) ?_
    refine AWp.block ?_
    refine AWp.loop (fun m s => ∃ j, s = (mk [(2, (.ref 1002 0)), (3, (.ref 1003 0)), (6, (vI ((i2 : Nat) : Int))), (7, (.ref 1007 0)), (8, (.ref 1008 0)), (9, (vI ((k : Nat) : Int))), (10, (.ref 1010 0)), (11, (.ref 1011 0)), (12, (vI ((j : Nat) : Int)))] [(1002, (.box [(.p (.sl false 2 (b.Teams.map D.Team.cells))), (.p (.sl false 3 (b.Policies.map D.Policy.cells)))])), (1003, (.box [(.p (.sl false 2 (b.Teams.map D.Team.cells))), (.p (.sl false 3 (b.Policies.map D.Policy.cells)))])), (1007, (.box [(vS ((nth b.Policies i2).Name)), (.p (.sl false 3 (((nth b.Policies i2).Steps).map D.PolicyStep.cells))), (vI ((nth b.Policies i2).Repeat))])), (1008, (.box [(vS ((nth b.Policies i2).Name)), (.p (.sl false 3 (((nth b.Policies i2).Steps).map D.PolicyStep.cells))), (vI ((nth b.Policies i2).Repeat))])), (1010, (.box [(vI ((nth ((nth b.Policies i2).Steps) k).Wait)), (vB ((nth ((nth b.Policies i2).Steps) k).Urgent)), (.p (.sl false 2 (((nth ((nth b.Policies i2).Steps) k).Targets).map D.Target.cells)))])), (1011, (.box [(vI ((nth ((nth b.Policies i2).Steps) k).Wait)), (vB ((nth ((nth b.Policies i2).Steps) k).Urgent)), (.p (.sl false 2 (((nth ((nth b.Policies i2).Steps) k).Targets).map D.Target.cells)))]))]) ∧ (j ≤ (nth (nth b.Policies i2).Steps k).Targets.length) ∧ m = ((nth (nth b.Policies i2).Steps k).Targets.length - j))
     ⟨_, 0, rfl, (by omega), rfl⟩ ?_
    rintro mm7 s ⟨j, rfl, hj, hmm7⟩
    have htl2 := (hb.step i2 (by omega) k (by omega)).tlen
    refine AWp.seq ?_
    refine AWp.s_reg hGn hGk [.a, .a, .a, .m (some 144) ⟨[(143, a'6)], [], (vI ((((nth ((nth b.Policies i2).Steps) k).Targets).length : Nat) : Int)), [], []⟩, .a] ⟨StepOK.p rfl rfl rfl (OpOK.lenP (e := 113) rfl rfl (by kernel_rfl) rfl (by rw [List.length_map])), trivial⟩ [(2, (.ref 1002 0)), (3, (.ref 1003 0)), (6, (vI ((i2 : Nat) : Int))), (7, (.ref 1007 0)), (8, (.ref 1008 0)), (9, (vI ((k : Nat) : Int))), (10, (.ref 1010 0)), (11, (.ref 1011 0)), (12, (vI ((j : Nat) : Int))), (145, (vB (decide (((j : Nat) : Int) < ((((nth ((nth b.Policies i2).Steps) k).Targets).length : Nat) : Int)))))] [(1002, a'3), (1003, a'3), (1007, a'5), (1008, a'5), (1010, a'7), (1011, a'7)] (by kernel_rfl) (by kernel_rfl) ?_
    refine AWp.cond (decide (((j : Nat) : Int) < ((((nth ((nth b.Policies i2).Steps) k).Targets).length : Nat) : Int))) rfl (fun hc8 => ?_) (fun hc8 => ?_)
    ·skip
     replace hc8 := of_decide_eq_true hc8
     refine AWp.skip ?_
     refine nextQ_normal ?_
     refine AWp.seq ?_
     refine AWp.block ?_
     refine AWp.s_dreg hGn hGk (by kernel_rfl) [.a, .a, .a, .m (some 151) ⟨[(149, a'6), (150, (vI ((j : Nat) : Int)))], [], (.eptr [(pI ((nth ((nth ((nth b.Policies i2).Steps) k).Targets) j).Kind)), (pI ((nth ((nth ((nth b.Policies i2).Steps) k).Targets) j).Index))]), [], []⟩, .a, .a, .a, .a, .m (some 156) ⟨[(154, a'6), (155, (vI ((j : Nat) : Int)))], [], (.eptr [(pI ((nth ((nth ((nth b.Policies i2).Steps) k).Targets) j).Kind)), (pI ((nth ((nth ((nth b.Policies i2).Steps) k).Targets) j).Index))]), [], []⟩, .a, .m (some 158) ⟨[(152, (.agg [(vI ((nth ((nth ((nth b.Policies i2).Steps) k).Targets) j).Kind)), (vI ((nth ((nth ((nth b.Policies i2).Steps) k).Targets) j).Index))])), (157, (.agg [(vI ((nth ((nth ((nth b.Policies i2).Steps) k).Targets) j).Kind)), (vI ((nth ((nth ((nth b.Policies i2).Steps) k).Targets) j).Index))]))], [], (vB false), [], []⟩] ⟨StepOK.p rfl rfl rfl (OpOK.indexP (e := 113) rfl (by kernel_rfl) (by kernel_rfl) rfl rfl rfl (map_nth (by omega))),
      StepOK.p rfl rfl rfl (OpOK.indexP (e := 113) rfl (by kernel_rfl) (by kernel_rfl) rfl rfl rfl (map_nth (by omega))),
      StepOK.p rfl rfl rfl (OpOK.neqInts (as1 := ([(nth ((nth ((nth b.Policies i2).Steps) k).Targets) j).Kind, (nth ((nth ((nth b.Policies i2).Steps) k).Targets) j).Index] : List Int)) (bs := ([(nth ((nth ((nth b.Policies i2).Steps) k).Targets) j).Kind, (nth ((nth ((nth b.Policies i2).Steps) k).Targets) j).Index] : List Int)) rfl (by kernel_rfl) rfl rfl rfl (decide_eq_false (fun h => h rfl))), trivial⟩ [(2, (.ref 1002 0)), (3, (.ref 1003 0)), (6, (vI ((i2 : Nat) : Int))), (7, (.ref 1007 0)), (8, (.ref 1008 0)), (9, (vI ((k : Nat) : Int))), (10, (.ref 1010 0)), (11, (.ref 1011 0)), (12, (vI ((j : Nat) : Int))), (158, (vB false))] [(1002, a'3), (1003, a'3), (1007, a'5), (1008, a'5), (1010, a'7), (1011, a'7)] (by kernel_rfl) (by kernel_rfl) (by kernel_rfl) ?_
     refine AWp.cond_false rfl ?_
     refine AWp.skip ?_
     refine blockQ_normal ?_
     refine nextQ_normal ?_
     refine AWp.reg' hGn hGk [.a, .m (some 147) ⟨[(146, (vI ((j : Nat) : Int)))], [], (vI ((j + 1 : Nat) : Int)), [], []⟩, .a] ⟨StepOK.p rfl rfl rfl (OpOK.add rfl rfl rfl (by rw [IntWalk.i64_in _ ⟨by omega, by omega⟩]; omega)), trivial⟩ [(2, (.ref 1002 0)), (3, (.ref 1003 0)), (6, (vI ((i2 : Nat) : Int))), (7, (.ref 1007 0)), (8, (.ref 1008 0)), (9, (vI ((k : Nat) : Int))), (10, (.ref 1010 0)), (11, (.ref 1011 0)), (12, (vI ((j + 1 : Nat) : Int)))] [(1002, a'3), (1003, a'3), (1007, a'5), (1008, a'5), (1010, a'7), (1011, a'7)] (by kernel_rfl) (by kernel_rfl) ?_
     refine nextQ_normal ⟨_, ?_, (j + 1), rfl, (by omega), rfl⟩
     · omega
    ·skip
     replace hc8 := of_decide_eq_false hc8
     refine AWp.weaken (mk [(2, (.ref 1002 0)), (3, (.ref 1003 0)), (6, (vI ((i2 : Nat) : Int))), (7, (.ref 1007 0)), (8, (.ref 1008 0)), (9, (vI ((k : Nat) : Int)))] [(1002, a'3), (1003, a'3), (1007, a'5), (1008, a'5)]) (Weak.sub' hGk (by kernel_rfl)) ?_
     refine AWp.exit ?_
     refine nextQ_exit ?_
     refine nextQ_exit ?_
     refine blockQ_exit ?_
     refine blockQ_normal ?_
     refine nextQ_normal ?_
     refine AWp.reg' hGn hGk [.a, .m (some 109) ⟨[(108, (vI ((k : Nat) : Int)))], [], (vI ((k + 1 : Nat) : Int)), [], []⟩, .a] ⟨StepOK.p rfl rfl rfl (OpOK.add rfl rfl rfl (by rw [IntWalk.i64_in _ ⟨by omega, by omega⟩]; omega)), trivial⟩ [(2, (.ref 1002 0)), (3, (.ref 1003 0)), (6, (vI ((i2 : Nat) : Int))), (7, (.ref 1007 0)), (8, (.ref 1008 0)), (9, (vI ((k + 1 : Nat) : Int)))] [(1002, a'3), (1003, a'3), (1007, a'5), (1008, a'5)] (by kernel_rfl) (by kernel_rfl) ?_
     refine nextQ_normal ⟨_, ?_, (k + 1), rfl, (by omega), rfl⟩
     · omega
   ·skip
    replace hc6 := of_decide_eq_false hc6
    refine AWp.weaken (mk [(2, (.ref 1002 0)), (3, (.ref 1003 0)), (6, (vI ((i2 : Nat) : Int)))] [(1002, a'3), (1003, a'3)]) (Weak.sub' hGk (by kernel_rfl)) ?_
    refine AWp.exit ?_
    refine nextQ_exit ?_
    refine nextQ_exit ?_
    refine blockQ_exit ?_
    refine blockQ_normal ?_
    refine nextQ_normal ?_
    refine AWp.reg' hGn hGk [.a, .m (some 71) ⟨[(70, (vI ((i2 : Nat) : Int)))], [], (vI ((i2 + 1 : Nat) : Int)), [], []⟩, .a] ⟨StepOK.p rfl rfl rfl (OpOK.add rfl rfl rfl (by rw [IntWalk.i64_in _ ⟨by omega, by omega⟩]; omega)), trivial⟩ [(2, (.ref 1002 0)), (3, (.ref 1003 0)), (6, (vI ((i2 + 1 : Nat) : Int)))] [(1002, a'3), (1003, a'3)] (by kernel_rfl) (by kernel_rfl) ?_
    refine nextQ_normal ⟨_, ?_, (i2 + 1), rfl, (by omega), rfl⟩
    · omega
  ·skip
   replace hc4 := of_decide_eq_false hc4
   refine AWp.weaken (mk [] []) (Weak.sub' hGk (by kernel_rfl)) ?_
   refine AWp.exit ?_
   refine nextQ_exit ?_
   refine nextQ_exit ?_
   refine blockQ_exit ?_
   refine nextQ_normal ?_
   refine AWp.s_reg hGn hGk (aa 1) (Man.aa _ _) [(4, (vB true))] [] (by kernel_rfl) (by kernel_rfl) ?_
   refine AWp.ret ?_
   refine fin_of (.inr rfl) (v := (vB true)) (Res.tmp rfl rfl) (h' := []) rfl rfl ?_
   exact ⟨rfl, rfl⟩
end Go.Proofs.YtimfbibaoppfcaaGreatDoor
