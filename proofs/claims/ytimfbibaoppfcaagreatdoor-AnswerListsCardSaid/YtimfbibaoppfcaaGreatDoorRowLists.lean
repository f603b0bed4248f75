/-
  The law AnswerLists answers true at every input, and its arguments read behind the call as before; the variables that its row lists hold what the text of the program lays (the tied card). No other condition.
-/
import Derived.Test.YtimfbibaoppfcaaGreatDoorListsWalk
import Derived.Test.YtimfbibaoppfcaaGreatDoorReadAns
import Derived.Test.YtimfbibaoppfcaaGreatDoorDoor
import Derived.Test.YtimfbibaoppfcaaGreatDoorCards
set_option linter.unusedSimpArgs false
set_option linter.unusedVariables false
namespace Go.Proofs.YtimfbibaoppfcaaGreatDoor
open Go AM Go.ChangeShapes Go.WideShapes Go.ChangeAt Go.RowKit

set_option maxRecDepth 100000 in
theorem answerLists_lifted (os : Os) (started : os.Started) (H : Type) (enc : TypeId × Value → H) :
    ReturnsInHanded {} Tryz.checked os 6 .any (fun w args => (Rows.answerListsSpec.pre enc Tryz.prog Tryz.f6 Rows.answerListsRow.domain Rows.answerListsRow.apart w args ∧ laidMetH Tryz.prog Rows.answerListsRow.laid w) ∧ sizedMet enc Tryz.prog Tryz.f6 (OpenSpec.ofChange Rows.answerListsSpec) Rows.answerListsRow.apart w args)
      (Rows.answerListsSpec.post enc Tryz.prog Tryz.f6 Rows.answerListsRow.apart Rows.answerListsRow.fresh Rows.answerListsRow.handsOn Rows.answerListsRow.again) := by
  refine returns_door (C := Tryz.checked) (X := fun w _ => laidMetH Tryz.prog Rows.answerListsRow.laid w) (fun _ _ _ hh h => h.of_heap hh) own0 started (by kernel_rfl) Tryz.func6
    (ChangeSpec.witness_shaped (enc := enc) (C := Tryz.checked) (os := os) (X := fun w _ => laidMetH Tryz.prog Rows.answerListsRow.laid w) false (World.laidAll Tryz.prog os Rows.answerListsRow.laid) #[.slice none 0 0, .slice none 0 0, .int .i64 0] 8 (World.laidAll_os _ _ _)
      (World.shaped_of_ZipB (by kernel_rfl) (by kernel_rfl)) (by kernel_rfl) (by kernel_rfl) (by kernel_rfl)
      (by rw [MakeChecks.laidMetH_plain _ _ _ (by kernel_rfl)]; exact laidMet_laidAll _ (by kernel_rfl) (by kernel_rfl))) ?_
  intro W base args ds gs before hval0 hW hL0 hsh
  have hval : ∀ (j : Nat) t v, Tryz.f6.params[j]? = some t → args[j]? = some v → Value.okWide Tryz.prog W .any base t v := hval0
  have hW' := hW
  obtain ⟨p, q, hA0, hV, rfl, _, _⟩ := hW
  have hA : DataW.TrodAll enc Tryz.prog W 0 (fun _ => true) true Tryz.f6.params.toList args.toList ds p := hA0
  rw [Tryz.params6] at hA hval
  obtain ⟨v0, v1, v2, d0, d1, d2, p0, p1, p2, rfl, rfl, rfl, h0, h1, h2⟩ := trodAll_three hA
  obtain ⟨L, hq0, k0⟩ := arg_one (dec := fun l : List Int => PV.sl false 1 (l.map D.cInt)) (reads_slice (e := 3) (n := 1) (by kernel_rfl) (by kernel_rfl) (by decide) (fun _ => rfl) (reads_int (k := .i64) (by kernel_rfl))) h0 (cells_slice (e := 3) (by kernel_rfl) (hval 0 _ v0 rfl rfl))
  obtain ⟨raw, hq1, k1⟩ := arg_one (dec := fun l : List D.Answer => PV.sl false 6 (l.map D.Answer.cells)) (reads_slice (e := 39) (n := 6) (by kernel_rfl) (by kernel_rfl) (by decide) (fun _ => rfl) reads_Answer) h1 (cells_slice (e := 39) (by kernel_rfl) (hval 1 _ v1 rfl rfl))
  obtain ⟨pg, hq2, k2⟩ := arg_one (dec := fun n : Int => PV.v (.int .i64 n)) (reads_int (k := .i64) (by kernel_rfl)) h2 (cells_int (k := .i64) (by kernel_rfl) (hval 2 _ v2 rfl rfl))
  have hb2 := bounds_i64 hq2
  rw [MakeChecks.laidMetH_plain _ _ _ (by kernel_rfl)] at hL0
  have hL : AM.Laid W := laid_of (show laidMet Tryz.prog laidL W from hL0) hsh
  refine (law_calls (us := [v0, v1, v2]) (law_AnswerLists L raw pg) hL (fun ρ Hp => ?_)).mono fun e W' ⟨he, hx⟩ => ?_
  · simp only [AV.Ts]
    exact ⟨_, _, rfl, k0, ⟨_, _, rfl, k1, ⟨_, _, rfl, k2, rfl⟩⟩⟩
  · exact ⟨_, he, law_post (by kernel_rfl) (of_decide_eq_true (by kernel_rfl)) (tb := 4) (by kernel_rfl) (by kernel_rfl) rfl rfl rfl rfl hW' hx⟩

theorem answerLists_row : Rows.AnswerListsSaid :=
  OpenClaim.holds_of_wide 6 Tryz.f6 rfl rfl rfl rfl rfl rfl rfl ⟨rfl, rfl, rfl, rfl, rfl⟩ rfl rfl rfl rfl rfl (by kernel_rfl) Tryz.func6 (by kernel_rfl)
    (of_decide_eq_true (by kernel_rfl)) (by unfold Func.isWrapper; first | (rw [if_pos (by decide +kernel)]; kernel_rfl) | (rw [if_neg (by decide +kernel)]; exact ⟨rfl, rfl⟩))
    (fun os started H enc _ => answerLists_lifted os started H enc)

theorem answerLists_holds : Rows.AnswerListsCardSaid :=
  Claim7.holds_tied_plain_at .later [] [.data, .data, .data, .data, .sentinel, .sentinel, .pinned] true (true, "ddfe7f11466df766bc8e385012723adffd3c62b70344b62bfc92a1e8fc58ff64") true
    answerLists_row (fun _ h => by cases h) (by kernel_rfl) (fun _ h => by cases h) answerLists_row_tie rfl ⟨rfl, rfl⟩ (by kernel_rfl) rfl
    (fun f fn hf hfn => by
      obtain rfl : f = 6 := Option.some.inj ((show Tryz.prog.funcNamed "pagewatch/pagewatchlaw28.AnswerLists" = some 6 by kernel_rfl).symm.trans hf) |>.symm
      obtain rfl : fn = Tryz.f6 := (Option.some.inj (Tryz.func6.symm.trans hfn)).symm
      exact ⟨by kernel_rfl, fun j t ht => by
        rw [Tryz.params6] at ht
        have hm : t ∈ [22, 46, 3] := by simpa using Array.mem_of_getElem? ht
        have hall : ([22, 46, 3].all fun u => !Tryz.prog.wantsStandIn u) = true := by kernel_rfl
        exact (show Tryz.prog.wantsStandIn t = false by simpa using List.all_eq_true.1 hall t hm)⟩)
    (by kernel_rfl)

#print axioms answerLists_holds
end Go.Proofs.YtimfbibaoppfcaaGreatDoor
