/-
  The walk of AnswerCodes. Printed by wip/gen/pol.py.
-/
import Derived.Test.YtimfbibaoppfcaaGreatDoorAnsDice
set_option maxRecDepth 100000
set_option linter.unusedSimpArgs false
set_option linter.unusedVariables false
namespace Go.Proofs.YtimfbibaoppfcaaGreatDoor
open Go AM
theorem law_AnswerCodes (L : List Int) (pg cd : Int) (h0 : 0 ≤ pg) (h1 : pg ≤ 65535) (h2 : 0 ≤ cd) (h3 : cd ≤ 65535) :
    SpecIs Tryz.prog 3 [(.p (.sl false 1 (L.map D.cInt))), (vK .u16 pg), (vK .u16 cd)] [] (vB true) [] := by
 refine Spec.intro Tryz.func3 rfl (by kernel_rfl) ?_
 intro Γ hGn hGk
 replace hGn : Γ.n = 95 := hGn
 replace hGk : Γ.names = [] := hGk
 refine AWp.weaken (mk [(0, (.p (.sl false 1 (L.map D.cInt)))), (1, (vK .u16 pg)), (2, (vK .u16 cd))] []) (Weak.sub' hGk (by kernel_rfl)) ?_
 refine AWp.s_reg hGn hGk (aa 1) (Man.aa _ _) [(0, (.p (.sl false 1 (L.map D.cInt)))), (1, (vK .u16 pg)), (2, (vK .u16 cd))] [] (by kernel_rfl) (by kernel_rfl) ?_
 refine AWp.seq ?_
 refine AWp.s_reg hGn hGk [.a, .m (some 17) ⟨[(16, (.p (.sl false 1 (L.map D.cInt))))], [], (vB (decide (((L.length : Nat) : Int) ≤ (500 : Int)))), [], []⟩, .a] ⟨StepOK.p rfl rfl rfl (OpOK.call rfl (by kernel_rfl) rfl (made_Light L) (by kernel_rfl)), trivial⟩ [(0, (.p (.sl false 1 (L.map D.cInt)))), (1, (vK .u16 pg)), (2, (vK .u16 cd)), (18, (vB (!(decide (((L.length : Nat) : Int) ≤ (500 : Int))))))] [] (by kernel_rfl) (by kernel_rfl) ?_
 refine AWp.cond (!(decide (((L.length : Nat) : Int) ≤ (500 : Int)))) rfl (fun hc1 => ?_) (fun hc1 => ?_)
 ·skip
  replace hc1 : decide (((L.length : Nat) : Int) ≤ (500 : Int)) = false := by simpa using hc1
  replace hc1 := of_decide_eq_false hc1
  refine AWp.s_reg hGn hGk [.m (some 19) ⟨[], [], (vB true), [], []⟩, .a] ⟨StepOK.p rfl rfl rfl (OpOK.call rfl (by kernel_rfl) rfl law28_sane (by kernel_rfl)), trivial⟩ [(6, (vB true))] [] (by kernel_rfl) (by kernel_rfl) ?_
  refine AWp.ret ?_
  refine nextQ_ret ?_
  refine fin_of (.inr rfl) (v := (vB true)) (Res.tmp rfl rfl) (h' := []) rfl rfl ?_
  exact ⟨rfl, rfl⟩
 ·skip
  replace hc1 : decide (((L.length : Nat) : Int) ≤ (500 : Int)) = true := by simpa using hc1
  replace hc1 := of_decide_eq_true hc1
  refine AWp.skip ?_
  refine nextQ_normal ?_
  have hL : L.length ≤ 500 := by omega
  have hi0 : crewI L 0 ≤ L.length := crewI_le (Nat.zero_le _)
  have hpl : (crew L 0).People.length = 4 := (crew_ok L 0).plen
  let a'1 : AO := (.box [(.p (.sl false 1 (L.map D.cInt))), (vI ((0 : Nat) : Int))])
  refine AWp.s_reg hGn hGk [.a, .m (some 21) ⟨[(20, (.p (.sl false 1 (L.map D.cInt))))], [], (.ref 1 0), [(1, a'1)], [1]⟩, .a] ⟨StepOK.p rfl rfl rfl (OpOK.call rfl (by kernel_rfl) rfl (made_Roll L) (by kernel_rfl)), trivial⟩ [(1, (vK .u16 pg)), (2, (vK .u16 cd)), (7, (.ref 1 0))] [(1, a'1)] (by kernel_rfl) (by kernel_rfl) ?_
  let a'2 : AV := (.p (.sl false 3 (((crew L 0).Zones).map D.Zone.cells)))
  let a'3 : AV := (.p (.sl false 6 (((crew L 0).People).map D.Person.cells)))
  let a'4 : AV := (.p (.sl false 3 (((crew L 0).Calendars).map D.Calendar.cells)))
  let a'5 : AV := (.p (.sl false 3 (((crew L 0).Schedules).map D.Schedule.cells)))
  let a'6 : AV := (.agg [a'2, a'3, a'4, a'5])
  let a'7 : AO := (.box [(.p (.sl false 1 (L.map D.cInt))), (vI ((crewI L 0 : Nat) : Int))])
  let a'8 : AO := (.box [a'2, a'3, a'4, a'5])
  refine AWp.s_reg hGn hGk [.a, .m (some 23) ⟨[(22, (.ref 1 0))], [(1, a'1)], a'6, [(1, a'7)], []⟩, .a, .a] ⟨StepOK.p rfl rfl rfl (OpOK.call rfl (by kernel_rfl) rfl (made_Crew L 0 hL (by repeat (first | assumption | exact Nat.zero_le _ | apply nextI_le | apply personI_le | apply schI_le | apply ovE_le | apply layQ_le | apply oneI_le | apply targetI_le | apply teamI_le | apply stepI_le | apply policyI_le))) (by kernel_rfl)), trivial⟩ [(1, (vK .u16 pg)), (2, (vK .u16 cd)), (7, (.ref 1 0)), (8, (.ref 1008 0))] [(1, a'7), (1008, a'8)] (by kernel_rfl) (by kernel_rfl) ?_
  have hf2 := nextN_lt L (crewI L 0) 4 (by omega)
  refine AWp.s_reg hGn hGk [.a, .m (some 25) ⟨[(24, (vK .u16 pg))], [], (vI pg), [], []⟩, .m (some 26) ⟨[(25, (vI pg))], [], (vI (1 + pg)), [], []⟩, .a, .m (some 28) ⟨[(27, (vK .u16 cd))], [], (vI cd), [], []⟩, .m (some 29) ⟨[(28, (vI cd))], [], (vI (cd % 10000)), [], []⟩, .a, .m (some 31) ⟨[(30, (.ref 1 0))], [(1, a'7)], (vI ((nextN L (crewI L 0) 4 : Nat) : Int)), [(1, (.box [(.p (.sl false 1 (L.map D.cInt))), (vI ((nextI L (crewI L 0) 4 : Nat) : Int))]))], []⟩, .a, .a, .a] ⟨StepOK.p rfl rfl rfl (OpOK.convI rfl (by kernel_rfl) (by kernel_rfl) rfl (IntWalk.i64_in _ ⟨by omega, by omega⟩)),
   StepOK.p rfl rfl rfl (OpOK.add rfl rfl rfl (IntWalk.i64_in _ ⟨by omega, by omega⟩)),
   StepOK.p rfl rfl rfl (OpOK.convI rfl (by kernel_rfl) (by kernel_rfl) rfl (IntWalk.i64_in _ ⟨by omega, by omega⟩)),
   StepOK.p rfl rfl rfl (OpOK.rem rfl rfl rfl (by omega) (Int.tmod_eq_emod_of_nonneg (by omega))),
   StepOK.p rfl rfl rfl (OpOK.call rfl (by kernel_rfl) rfl (made_Next L (crewI L 0) 4 hL (by repeat (first | assumption | exact Nat.zero_le _ | apply nextI_le | apply crewI_le | apply ansI_le | apply oddAI_le | apply oneI_le | apply targetI_le | apply teamI_le | apply stepI_le | apply policyI_le)) (by omega)) (by kernel_rfl)), trivial⟩ [(8, (.ref 1008 0)), (9, (vI (1 + pg))), (10, (vI (cd % 10000))), (11, (vI ((nextN L (crewI L 0) 4 : Nat) : Int)))] [(1008, a'8)] (by kernel_rfl) (by kernel_rfl) ?_
  refine AWp.s_reg hGn hGk [.a, .m (some 33) ⟨[(32, (vI (1 + pg)))], [], (vS (itoaB (1 + pg))), [], []⟩, .m (some 34) ⟨[(33, (vS (itoaB (1 + pg))))], [], (vS ((ByteArray.mk #[97, 99, 107, 32]) ++ (itoaB (1 + pg)))), [], []⟩, .m (some 35) ⟨[(34, (vS ((ByteArray.mk #[97, 99, 107, 32]) ++ (itoaB (1 + pg)))))], [], (vS (((ByteArray.mk #[97, 99, 107, 32]) ++ (itoaB (1 + pg))) ++ (ByteArray.mk #[32]))), [], []⟩, .a, .m (some 37) ⟨[(36, (vI (cd % 10000)))], [], (vI ((cd % 10000) / 1000)), [], []⟩, .m (some 38) ⟨[(37, (vI ((cd % 10000) / 1000)))], [], (vS (itoaB ((cd % 10000) / 1000))), [], []⟩, .m (some 39) ⟨[(35, (vS (((ByteArray.mk #[97, 99, 107, 32]) ++ (itoaB (1 + pg))) ++ (ByteArray.mk #[32])))), (38, (vS (itoaB ((cd % 10000) / 1000))))], [], (vS ((((ByteArray.mk #[97, 99, 107, 32]) ++ (itoaB (1 + pg))) ++ (ByteArray.mk #[32])) ++ (itoaB ((cd % 10000) / 1000)))), [], []⟩, .a, .m (some 41) ⟨[(40, (vI (cd % 10000)))], [], (vI ((cd % 10000) / 100)), [], []⟩, .m (some 42) ⟨[(41, (vI ((cd % 10000) / 100)))], [], (vI (((cd % 10000) / 100) % 10)), [], []⟩, .m (some 43) ⟨[(42, (vI (((cd % 10000) / 100) % 10)))], [], (vS (itoaB (((cd % 10000) / 100) % 10))), [], []⟩, .m (some 44) ⟨[(39, (vS ((((ByteArray.mk #[97, 99, 107, 32]) ++ (itoaB (1 + pg))) ++ (ByteArray.mk #[32])) ++ (itoaB ((cd % 10000) / 1000))))), (43, (vS (itoaB (((cd % 10000) / 100) % 10))))], [], (vS (((((ByteArray.mk #[97, 99, 107, 32]) ++ (itoaB (1 + pg))) ++ (ByteArray.mk #[32])) ++ (itoaB ((cd % 10000) / 1000))) ++ (itoaB (((cd % 10000) / 100) % 10)))), [], []⟩, .a, .m (some 46) ⟨[(45, (vI (cd % 10000)))], [], (vI ((cd % 10000) / 10)), [], []⟩, .m (some 47) ⟨[(46, (vI ((cd % 10000) / 10)))], [], (vI (((cd % 10000) / 10) % 10)), [], []⟩, .m (some 48) ⟨[(47, (vI (((cd % 10000) / 10) % 10)))], [], (vS (itoaB (((cd % 10000) / 10) % 10))), [], []⟩, .m (some 49) ⟨[(44, (vS (((((ByteArray.mk #[97, 99, 107, 32]) ++ (itoaB (1 + pg))) ++ (ByteArray.mk #[32])) ++ (itoaB ((cd % 10000) / 1000))) ++ (itoaB (((cd % 10000) / 100) % 10))))), (48, (vS (itoaB (((cd % 10000) / 10) % 10))))], [], (vS ((((((ByteArray.mk #[97, 99, 107, 32]) ++ (itoaB (1 + pg))) ++ (ByteArray.mk #[32])) ++ (itoaB ((cd % 10000) / 1000))) ++ (itoaB (((cd % 10000) / 100) % 10))) ++ (itoaB (((cd % 10000) / 10) % 10)))), [], []⟩, .a, .m (some 51) ⟨[(50, (vI (cd % 10000)))], [], (vI ((cd % 10000) % 10)), [], []⟩, .m (some 52) ⟨[(51, (vI ((cd % 10000) % 10)))], [], (vS (itoaB ((cd % 10000) % 10))), [], []⟩, .m (some 53) ⟨[(49, (vS ((((((ByteArray.mk #[97, 99, 107, 32]) ++ (itoaB (1 + pg))) ++ (ByteArray.mk #[32])) ++ (itoaB ((cd % 10000) / 1000))) ++ (itoaB (((cd % 10000) / 100) % 10))) ++ (itoaB (((cd % 10000) / 10) % 10))))), (52, (vS (itoaB ((cd % 10000) % 10))))], [], (vS (fmt3 1 (1 + pg) (cd % 10000))), [], []⟩, .a] ⟨StepOK.p rfl rfl rfl (OpOK.call rfl (by kernel_rfl) rfl (ref_Decimal (1 + pg) (by omega) (by omega)) (by kernel_rfl)),
   StepOK.p rfl rfl rfl (OpOK.addS rfl rfl rfl (sz_le (m := 4) (n := 21) (show ByteArray.size (ByteArray.mk #[97, 99, 107, 32]) ≤ 4 from Nat.le_refl _) (itoaB_size (1 + pg) (by omega) (by omega)) rfl) rfl),
   StepOK.p rfl rfl rfl (OpOK.addS rfl rfl rfl (sz_le (m := 25) (n := 1) (sz_app (show ByteArray.size (ByteArray.mk #[97, 99, 107, 32]) ≤ 4 from Nat.le_refl _) (itoaB_size (1 + pg) (by omega) (by omega))) (show ByteArray.size (ByteArray.mk #[32]) ≤ 1 from Nat.le_refl _) rfl) rfl),
   StepOK.p rfl rfl rfl (OpOK.quo rfl rfl rfl (by omega) (IntWalk.i64_quo _ _ ⟨by omega, by omega, by omega⟩)),
   StepOK.p rfl rfl rfl (OpOK.call rfl (by kernel_rfl) rfl (ref_Decimal ((cd % 10000) / 1000) (by omega) (by omega)) (by kernel_rfl)),
   StepOK.p rfl rfl rfl (OpOK.addS rfl rfl rfl (sz_le (m := 26) (n := 21) (sz_app (sz_app (show ByteArray.size (ByteArray.mk #[97, 99, 107, 32]) ≤ 4 from Nat.le_refl _) (itoaB_size (1 + pg) (by omega) (by omega))) (show ByteArray.size (ByteArray.mk #[32]) ≤ 1 from Nat.le_refl _)) (itoaB_size ((cd % 10000) / 1000) (by omega) (by omega)) rfl) rfl),
   StepOK.p rfl rfl rfl (OpOK.quo rfl rfl rfl (by omega) (IntWalk.i64_quo _ _ ⟨by omega, by omega, by omega⟩)),
   StepOK.p rfl rfl rfl (OpOK.rem rfl rfl rfl (by omega) (Int.tmod_eq_emod_of_nonneg (by omega))),
   StepOK.p rfl rfl rfl (OpOK.call rfl (by kernel_rfl) rfl (ref_Decimal (((cd % 10000) / 100) % 10) (by omega) (by omega)) (by kernel_rfl)),
   StepOK.p rfl rfl rfl (OpOK.addS rfl rfl rfl (sz_le (m := 47) (n := 21) (sz_app (sz_app (sz_app (show ByteArray.size (ByteArray.mk #[97, 99, 107, 32]) ≤ 4 from Nat.le_refl _) (itoaB_size (1 + pg) (by omega) (by omega))) (show ByteArray.size (ByteArray.mk #[32]) ≤ 1 from Nat.le_refl _)) (itoaB_size ((cd % 10000) / 1000) (by omega) (by omega))) (itoaB_size (((cd % 10000) / 100) % 10) (by omega) (by omega)) rfl) rfl),
   StepOK.p rfl rfl rfl (OpOK.quo rfl rfl rfl (by omega) (IntWalk.i64_quo _ _ ⟨by omega, by omega, by omega⟩)),
   StepOK.p rfl rfl rfl (OpOK.rem rfl rfl rfl (by omega) (Int.tmod_eq_emod_of_nonneg (by omega))),
   StepOK.p rfl rfl rfl (OpOK.call rfl (by kernel_rfl) rfl (ref_Decimal (((cd % 10000) / 10) % 10) (by omega) (by omega)) (by kernel_rfl)),
   StepOK.p rfl rfl rfl (OpOK.addS rfl rfl rfl (sz_le (m := 68) (n := 21) (sz_app (sz_app (sz_app (sz_app (show ByteArray.size (ByteArray.mk #[97, 99, 107, 32]) ≤ 4 from Nat.le_refl _) (itoaB_size (1 + pg) (by omega) (by omega))) (show ByteArray.size (ByteArray.mk #[32]) ≤ 1 from Nat.le_refl _)) (itoaB_size ((cd % 10000) / 1000) (by omega) (by omega))) (itoaB_size (((cd % 10000) / 100) % 10) (by omega) (by omega))) (itoaB_size (((cd % 10000) / 10) % 10) (by omega) (by omega)) rfl) rfl),
   StepOK.p rfl rfl rfl (OpOK.rem rfl rfl rfl (by omega) (Int.tmod_eq_emod_of_nonneg (by omega))),
   StepOK.p rfl rfl rfl (OpOK.call rfl (by kernel_rfl) rfl (ref_Decimal ((cd % 10000) % 10) (by omega) (by omega)) (by kernel_rfl)),
   StepOK.p rfl rfl rfl (OpOK.addS rfl rfl rfl (sz_le (m := 89) (n := 21) (sz_app (sz_app (sz_app (sz_app (sz_app (show ByteArray.size (ByteArray.mk #[97, 99, 107, 32]) ≤ 4 from Nat.le_refl _) (itoaB_size (1 + pg) (by omega) (by omega))) (show ByteArray.size (ByteArray.mk #[32]) ≤ 1 from Nat.le_refl _)) (itoaB_size ((cd % 10000) / 1000) (by omega) (by omega))) (itoaB_size (((cd % 10000) / 100) % 10) (by omega) (by omega))) (itoaB_size (((cd % 10000) / 10) % 10) (by omega) (by omega))) (itoaB_size ((cd % 10000) % 10) (by omega) (by omega)) rfl) (ack_text (by omega) (by omega))), trivial⟩ [(8, (.ref 1008 0)), (9, (vI (1 + pg))), (10, (vI (cd % 10000))), (11, (vI ((nextN L (crewI L 0) 4 : Nat) : Int))), (12, (vS (fmt3 1 (1 + pg) (cd % 10000))))] [(1008, a'8)] (by kernel_rfl) (by kernel_rfl) ?_
  have hf3 := ansCode_le (1 + pg) ((nextN L (crewI L 0) 4 : Nat) : Int)
  refine AWp.s_reg hGn hGk [.a, .a, .m (some 56) ⟨[(54, (vI (1 + pg))), (55, (vI ((nextN L (crewI L 0) 4 : Nat) : Int)))], [], (vI (ansCode (1 + pg) ((nextN L (crewI L 0) 4 : Nat) : Int))), [], []⟩, .a] ⟨StepOK.p rfl rfl rfl (OpOK.call rfl (by kernel_rfl) rfl (ans_Code (1 + pg) ((nextN L (crewI L 0) 4 : Nat) : Int)) (by kernel_rfl)), trivial⟩ [(8, (.ref 1008 0)), (9, (vI (1 + pg))), (10, (vI (cd % 10000))), (11, (vI ((nextN L (crewI L 0) 4 : Nat) : Int))), (12, (vS (fmt3 1 (1 + pg) (cd % 10000)))), (13, (vI (ansCode (1 + pg) ((nextN L (crewI L 0) 4 : Nat) : Int))))] [(1008, a'8)] (by kernel_rfl) (by kernel_rfl) ?_
  have hnn := ansCode_nn (p := (1 + pg)) (q := ((nextN L (crewI L 0) 4 : Nat) : Int)) (inB_true (by omega)) (inB_true (by omega))
  by_cases hs4 : (cd % 10000) = ansCode (1 + pg) ((nextN L (crewI L 0) 4 : Nat) : Int)
  ·skip
   let a'9 : AV := (.agg [(vI 0), (vI (1 + pg)), (vI ((nextN L (crewI L 0) 4 : Nat) : Int)), (vI 1), (vI 0), (vI 0)])
   let a'10 : AO := (.box [(vI 0), (vI (1 + pg)), (vI ((nextN L (crewI L 0) 4 : Nat) : Int)), (vI 1), (vI 0), (vI 0)])
   refine AWp.s_reg hGn hGk [.a, .a, .a, .m (some 61) ⟨[(58, a'6), (59, (vI ((nextN L (crewI L 0) 4 : Nat) : Int))), (60, (vS (fmt3 1 (1 + pg) (cd % 10000))))], [], (.tup [a'9, (vI 0)]), [], []⟩, .a, .a, .a, .a, .a, .a] ⟨StepOK.p rfl rfl rfl (OpOK.call rfl (by kernel_rfl) rfl (by have h := ans_Parse (crew L 0) ((nextN L (crewI L 0) 4 : Nat) : Int) (fmt3 1 (1 + pg) (cd % 10000)) (crew_ok L 0) (by have := fmt3_size 1 (1 + pg) (cd % 10000) (by omega) (by omega) (by omega) (by omega); omega); rw [parse3 (by omega) (by omega) (by omega) (by omega) (by omega) (by omega) (by omega) (by omega) (inB_true (by omega)) (inB_true (by omega)), if_pos (of_decide_eq_true (decide_eq_true hs4))] at h; exact h) (by kernel_rfl)), trivial⟩ [(9, (vI (1 + pg))), (10, (vI (cd % 10000))), (11, (vI ((nextN L (crewI L 0) 4 : Nat) : Int))), (13, (vI (ansCode (1 + pg) ((nextN L (crewI L 0) 4 : Nat) : Int)))), (14, (.ref 1014 0)), (15, (vI 0))] [(1014, a'10)] (by kernel_rfl) (by kernel_rfl) ?_
   refine AWp.seq ?_
   refine AWp.s_reg hGn hGk [.a, .m (some 65) ⟨[(64, (vI (ansCode (1 + pg) ((nextN L (crewI L 0) 4 : Nat) : Int))))], [], (vB false), [], []⟩, .a, .a, .m (some 68) ⟨[(67, (vI (ansCode (1 + pg) ((nextN L (crewI L 0) 4 : Nat) : Int)))), (66, (vB false))], [], (vB false), [], []⟩, .a] ⟨StepOK.p rfl rfl rfl (OpOK.lss rfl rfl rfl (decide_eq_false (by omega))),
    StepOK.g rfl rfl rfl rfl rfl (by simp) (OpOK.gtr rfl rfl rfl (decide_eq_false (by omega))), trivial⟩ [(9, (vI (1 + pg))), (10, (vI (cd % 10000))), (11, (vI ((nextN L (crewI L 0) 4 : Nat) : Int))), (13, (vI (ansCode (1 + pg) ((nextN L (crewI L 0) 4 : Nat) : Int)))), (14, (.ref 1014 0)), (15, (vI 0)), (69, (vB false))] [(1014, a'10)] (by kernel_rfl) (by kernel_rfl) ?_
   refine AWp.cond_false rfl ?_
   refine AWp.skip ?_
   refine nextQ_normal ?_
   refine AWp.seq ?_
   refine AWp.s_reg hGn hGk [.a, .a, .m (some 72) ⟨[(70, (vI (cd % 10000))), (71, (vI (ansCode (1 + pg) ((nextN L (crewI L 0) 4 : Nat) : Int))))], [], (vB false), [], []⟩] ⟨StepOK.p rfl rfl rfl (OpOK.neqI rfl rfl rfl (decide_eq_false (fun h => h (of_decide_eq_true (decide_eq_true hs4))))), trivial⟩ [(9, (vI (1 + pg))), (11, (vI ((nextN L (crewI L 0) 4 : Nat) : Int))), (14, (.ref 1014 0)), (15, (vI 0)), (72, (vB false))] [(1014, a'10)] (by kernel_rfl) (by kernel_rfl) ?_
   refine AWp.cond_false rfl ?_
   refine AWp.skip ?_
   refine nextQ_normal ?_
   refine AWp.s_reg hGn hGk [.a, .a, .a, .a, .a, .a, .a, .m (some 90) ⟨[(86, a'9), (89, a'9), (85, (vB true))], [], (vB true), [], []⟩, .a, .a, .m (some 93) ⟨[(92, (vB true))], [], (vB true), [], []⟩, .a, .a] ⟨StepOK.g rfl rfl rfl rfl rfl (by simp) (OpOK.eqlInts (as1 := ([0, 1 + pg, ((nextN L (crewI L 0) 4 : Nat) : Int), 1, 0, 0] : List Int)) (bs := ([0, 1 + pg, ((nextN L (crewI L 0) 4 : Nat) : Int), 1, 0, 0] : List Int)) rfl (by kernel_rfl) rfl rfl rfl (decide_eq_true rfl)),
    StepOK.g rfl rfl rfl rfl rfl (by simp) (OpOK.call rfl (by kernel_rfl) rfl law28_sane (by kernel_rfl)), trivial⟩ [(6, (vB true))] [] (by kernel_rfl) (by kernel_rfl) ?_
   refine AWp.ret ?_
   refine fin_of (.inr rfl) (v := (vB true)) (Res.tmp rfl rfl) (h' := []) rfl rfl ?_
   exact ⟨rfl, rfl⟩
  ·skip
   let a'11 : AV := (.agg [(vI 0), (vI 0), (vI 0), (vI 0), (vI 0), (vI 0)])
   let a'12 : AO := (.box [(vI 0), (vI 0), (vI 0), (vI 0), (vI 0), (vI 0)])
   refine AWp.s_reg hGn hGk [.a, .a, .a, .m (some 61) ⟨[(58, a'6), (59, (vI ((nextN L (crewI L 0) 4 : Nat) : Int))), (60, (vS (fmt3 1 (1 + pg) (cd % 10000))))], [], (.tup [a'11, (vI 20)]), [], []⟩, .a, .a, .a, .a, .a, .a] ⟨StepOK.p rfl rfl rfl (OpOK.call rfl (by kernel_rfl) rfl (by have h := ans_Parse (crew L 0) ((nextN L (crewI L 0) 4 : Nat) : Int) (fmt3 1 (1 + pg) (cd % 10000)) (crew_ok L 0) (by have := fmt3_size 1 (1 + pg) (cd % 10000) (by omega) (by omega) (by omega) (by omega); omega); rw [parse3 (by omega) (by omega) (by omega) (by omega) (by omega) (by omega) (by omega) (by omega) (inB_true (by omega)) (inB_true (by omega)), if_neg (of_decide_eq_false (decide_eq_false hs4))] at h; exact h) (by kernel_rfl)), trivial⟩ [(9, (vI (1 + pg))), (10, (vI (cd % 10000))), (11, (vI ((nextN L (crewI L 0) 4 : Nat) : Int))), (13, (vI (ansCode (1 + pg) ((nextN L (crewI L 0) 4 : Nat) : Int)))), (14, (.ref 1014 0)), (15, (vI 20))] [(1014, a'12)] (by kernel_rfl) (by kernel_rfl) ?_
   refine AWp.seq ?_
   refine AWp.s_reg hGn hGk [.a, .m (some 65) ⟨[(64, (vI (ansCode (1 + pg) ((nextN L (crewI L 0) 4 : Nat) : Int))))], [], (vB false), [], []⟩, .a, .a, .m (some 68) ⟨[(67, (vI (ansCode (1 + pg) ((nextN L (crewI L 0) 4 : Nat) : Int)))), (66, (vB false))], [], (vB false), [], []⟩, .a] ⟨StepOK.p rfl rfl rfl (OpOK.lss rfl rfl rfl (decide_eq_false (by omega))),
    StepOK.g rfl rfl rfl rfl rfl (by simp) (OpOK.gtr rfl rfl rfl (decide_eq_false (by omega))), trivial⟩ [(9, (vI (1 + pg))), (10, (vI (cd % 10000))), (11, (vI ((nextN L (crewI L 0) 4 : Nat) : Int))), (13, (vI (ansCode (1 + pg) ((nextN L (crewI L 0) 4 : Nat) : Int)))), (14, (.ref 1014 0)), (15, (vI 20)), (69, (vB false))] [(1014, a'12)] (by kernel_rfl) (by kernel_rfl) ?_
   refine AWp.cond_false rfl ?_
   refine AWp.skip ?_
   refine nextQ_normal ?_
   refine AWp.seq ?_
   refine AWp.s_reg hGn hGk [.a, .a, .m (some 72) ⟨[(70, (vI (cd % 10000))), (71, (vI (ansCode (1 + pg) ((nextN L (crewI L 0) 4 : Nat) : Int))))], [], (vB true), [], []⟩] ⟨StepOK.p rfl rfl rfl (OpOK.neqI rfl rfl rfl (decide_eq_true (of_decide_eq_false (decide_eq_false hs4)))), trivial⟩ [(9, (vI (1 + pg))), (11, (vI ((nextN L (crewI L 0) 4 : Nat) : Int))), (14, (.ref 1014 0)), (15, (vI 20)), (72, (vB true))] [(1014, a'12)] (by kernel_rfl) (by kernel_rfl) ?_
   refine AWp.cond_true rfl ?_
   refine AWp.s_reg hGn hGk [.a, .a, .a, .a, .a, .m (some 78) ⟨[(76, a'11), (77, a'11), (75, (vB true))], [], (vB true), [], []⟩, .a, .a, .m (some 81) ⟨[(80, (vB true))], [], (vB true), [], []⟩, .a, .a] ⟨StepOK.g rfl rfl rfl rfl rfl (by simp) (OpOK.eqlInts (as1 := ([0, 0, 0, 0, 0, 0] : List Int)) (bs := ([0, 0, 0, 0, 0, 0] : List Int)) rfl (by kernel_rfl) rfl rfl rfl (decide_eq_true rfl)),
    StepOK.g rfl rfl rfl rfl rfl (by simp) (OpOK.call rfl (by kernel_rfl) rfl law28_sane (by kernel_rfl)), trivial⟩ [(6, (vB true))] [] (by kernel_rfl) (by kernel_rfl) ?_
   refine AWp.ret ?_
   refine nextQ_ret ?_
   refine fin_of (.inr rfl) (v := (vB true)) (Res.tmp rfl rfl) (h' := []) rfl rfl ?_
   exact ⟨rfl, rfl⟩
end Go.Proofs.YtimfbibaoppfcaaGreatDoor
