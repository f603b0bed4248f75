/-
  The law ScriptLimits answers true at every input, and its arguments read behind the call as before; the variables that its row lists hold what the text of the program lays (the tied card). No other condition.
-/
import Derived.Test.YtkfmncmhagpajaaGreatDoorQRowScD
import Derived.Test.YtkfmncmhagpajaaGreatDoorQRowScE
import Derived.Test.YtkfmncmhagpajaaGreatDoorCards
set_option linter.unusedSimpArgs false
set_option linter.unusedVariables false
namespace Go.Proofs.YtkfmncmhagpajaaGreatDoor
open Go AM Go.ChangeShapes Go.WideShapes Go.ChangeAt Go.RowKit
theorem law_ScriptLimits (n : Int) (t : Int) (h_n : 0 ≤ n ∧ n ≤ 255) (h_t : 0 ≤ t ∧ t ≤ 65535) : SpecIs Tryz.prog 3 [.p (.v (.int .u8 n)), .p (.v (.int .u16 t))] [] (vB true) [] := by
  obtain ⟨L1, _, _, h⟩ := (law44_ScriptLimits_ok 1000).spec (n, t, ()) () (true, ()) ()
    (by show optc (law44_ScriptLimits 1000 n t) _ = _; rw [scriptLimits_true n t h_n h_t]; rfl) (fun _ _ => 0) (fun n t' l v hn => by change AM.look n [] = _ at hn; simp [AM.look] at hn)
  exact h
set_option maxRecDepth 100000 in
theorem scriptLimits_lifted (os : Os) (started : os.Started) (H : Type) (enc : TypeId × Value → H) :
    ReturnsInHanded {} Tryz.checked os 3 .any (fun w args => (Rows.scriptLimitsSpec.pre enc Tryz.prog Tryz.f3 Rows.scriptLimitsRow.domain Rows.scriptLimitsRow.apart w args ∧ laidMetH Tryz.prog Rows.scriptLimitsRow.laid w) ∧ sizedMet enc Tryz.prog Tryz.f3 (OpenSpec.ofChange Rows.scriptLimitsSpec) Rows.scriptLimitsRow.apart w args)
      (Rows.scriptLimitsSpec.post enc Tryz.prog Tryz.f3 Rows.scriptLimitsRow.apart Rows.scriptLimitsRow.fresh Rows.scriptLimitsRow.handsOn Rows.scriptLimitsRow.again) := by
  refine returns_door (C := Tryz.checked) (X := fun w _ => laidMetH Tryz.prog Rows.scriptLimitsRow.laid w) (fun _ _ _ hh h => h.of_heap hh) own0 started (by kernel_rfl) Tryz.func3
    (ChangeSpec.witness_shaped (enc := enc) (C := Tryz.checked) (os := os) (X := fun w _ => laidMetH Tryz.prog Rows.scriptLimitsRow.laid w) false (World.laidAll Tryz.prog os Rows.scriptLimitsRow.laid) #[.int .u8 0, .int .u16 0] 8 (World.laidAll_os _ _ _)
      (World.shaped_of_ZipB (by kernel_rfl) (by kernel_rfl)) (by kernel_rfl) (by kernel_rfl) (by kernel_rfl)
      (by rw [MakeChecks.laidMetH_plain _ _ _ (by kernel_rfl)]; exact laidMet_laidAll _ (by kernel_rfl) (by kernel_rfl))) ?_
  intro W base args ds gs before hval0 hW hL0 hsh
  have hval : ∀ (j : Nat) t v, Tryz.f3.params[j]? = some t → args[j]? = some v → Value.okWide Tryz.prog W .any base t v := hval0
  have hW' := hW
  obtain ⟨p, q, hA0, hV, rfl, _, _⟩ := hW
  have hA : DataW.TrodAll enc Tryz.prog W 0 (fun _ => true) true Tryz.f3.params.toList args.toList ds p := hA0
  rw [Tryz.params3] at hA hval
  obtain ⟨v0, v1, d0, d1, p0, p1, rfl, rfl, rfl, h0, h1⟩ := trodAll_two hA
  obtain ⟨n, hq0, k0⟩ := arg_one (dec := fun n : Int => PV.v (.int .u8 n)) (reads_int (k := .u8) (by kernel_rfl)) h0 (cells_int (k := .u8) (by kernel_rfl) (hval 0 _ v0 rfl rfl))
  have hb0 := bounds_u8 hq0
  obtain ⟨t, hq1, k1⟩ := arg_one (dec := fun n : Int => PV.v (.int .u16 n)) (reads_int (k := .u16) (by kernel_rfl)) h1 (cells_int (k := .u16) (by kernel_rfl) (hval 1 _ v1 rfl rfl))
  have hb1 := bounds_u16 hq1
  rw [MakeChecks.laidMetH_plain _ _ _ (by kernel_rfl)] at hL0
  have hL : AM.Laid W := laid_of (show laidMet Tryz.prog laidL W from hL0) hsh
  refine (law_calls (us := [v0, v1]) (law_ScriptLimits n t hb0 hb1) hL (fun ρ Hp => ?_)).mono fun e W' ⟨he, hx⟩ => ?_
  · simp only [AV.Ts]
    exact ⟨_, _, rfl, k0, ⟨_, _, rfl, k1, rfl⟩⟩
  · exact ⟨_, he, law_post (by kernel_rfl) (of_decide_eq_true (by kernel_rfl)) (tb := 4) (by kernel_rfl) (by kernel_rfl) rfl rfl rfl rfl hW' hx⟩
theorem scriptLimits_row : Rows.ScriptLimitsSaid :=
  OpenClaim.holds_of_wide 3 Tryz.f3 rfl rfl rfl rfl rfl rfl rfl ⟨rfl, rfl, rfl, rfl, rfl⟩ rfl rfl rfl rfl rfl (by kernel_rfl) Tryz.func3 (by kernel_rfl)
    (of_decide_eq_true (by kernel_rfl)) (by unfold Func.isWrapper; first | (rw [if_pos (by decide +kernel)]; kernel_rfl) | (rw [if_neg (by decide +kernel)]; exact ⟨rfl, rfl⟩))
    (fun os started H enc _ => scriptLimits_lifted os started H enc)
theorem scriptLimits_holds : Rows.ScriptLimitsCardSaid :=
  Claim7.holds_tied_plain_at .later [] [.data, .data, .data, .data, .sentinel, .sentinel, .pinned] true (true, "73c03382892f85a609f63d2aecb4eddc2849a8ce620a1215db30523fd797f9e8") true
    scriptLimits_row (fun _ h => by cases h) (by kernel_rfl) (fun _ h => by cases h) scriptLimits_row_tie rfl ⟨rfl, rfl⟩ (by kernel_rfl) rfl
    (fun f fn hf hfn => by
      obtain rfl : f = 3 := Option.some.inj ((show Tryz.prog.funcNamed "pagewatch/pagewatchlaw44.ScriptLimits" = some 3 by kernel_rfl).symm.trans hf) |>.symm
      obtain rfl : fn = Tryz.f3 := (Option.some.inj (Tryz.func3.symm.trans hfn)).symm
      exact ⟨by kernel_rfl, fun j t ht => by
        rw [Tryz.params3] at ht
        have hm : t ∈ [5, 22] := by simpa using Array.mem_of_getElem? ht
        have hall : ([5, 22].all fun u => !Tryz.prog.wantsStandIn u) = true := by kernel_rfl
        exact (show Tryz.prog.wantsStandIn t = false by simpa using List.all_eq_true.1 hall t hm)⟩)
    (by kernel_rfl)
#print axioms scriptLimits_holds
end Go.Proofs.YtkfmncmhagpajaaGreatDoor
