/-
  The law PolicySteps answers true at every input, and its arguments read behind the call as before. No condition.
-/
import Derived.Test.YteccnpkpjaknkaaReadPol
import Derived.Test.YteccnpkpjaknkaaStepsWalk
set_option linter.unusedSimpArgs false
set_option linter.unusedVariables false
namespace Go.Proofs.Yteccnpkpjaknkaa
open Go AM Go.ChangeShapes Go.WideShapes Go.ChangeAt Go.RowKit

set_option maxRecDepth 100000 in
theorem policySteps_lifted (os : Os) (started : os.Started) (H : Type) (enc : TypeId × Value → H) :
    ReturnsInHanded {} Try.checked os 5 .any (Rows.policyStepsSpec.pre6 enc Try.prog Try.f5 Rows.policyStepsRow.domain false)
      (Rows.policyStepsSpec.post enc Try.prog Try.f5 Rows.policyStepsRow.apart Rows.policyStepsRow.fresh Rows.policyStepsRow.handsOn Rows.policyStepsRow.again) := by
  refine returnsInHanded_of_change (C := Try.checked) (by kernel_rfl) started (by kernel_rfl) Try.func5
    (ChangeSpec.witness6 (enc := enc) (C := Try.checked) false ⟨#[], #[.slice none 0 0, .agg #[.string (ByteArray.mk #[]), .slice none 0 0, .int .i64 0], .int .i64 0, .int .i64 0], []⟩ 8 (by kernel_rfl) (by kernel_rfl) (by kernel_rfl) (by kernel_rfl)) ?_
  intro W base args ds gs before hval0 hW _ _
  have hval : ∀ (j : Nat) t v, Try.f5.params[j]? = some t → args[j]? = some v → Value.okWide Try.prog W .any base t v := hval0
  have hW' := hW
  obtain ⟨p, q, hA0, hV, rfl, _, _⟩ := hW
  have hA : DataW.TrodAll enc Try.prog W 0 (fun _ => true) true Try.f5.params.toList args.toList ds p := hA0
  rw [Try.params5] at hA hval
  obtain ⟨v0, v1, v2, v3, d0, d1, d2, d3, p0, p1, p2, p3, rfl, rfl, rfl, h0, h1, h2, h3⟩ := trodAll_four hA
  obtain ⟨L, hq0, k0⟩ := arg_one (dec := fun l : List Int => PV.sl false 1 (l.map D.cInt)) (reads_slice (e := 3) (n := 1) (by kernel_rfl) (by kernel_rfl) (by decide) (fun _ => rfl) (reads_int (k := .i64) (by kernel_rfl))) h0 (cells_slice (e := 3) (by kernel_rfl) (hval 0 _ v0 rfl rfl))
  obtain ⟨q, hq1, k1⟩ := arg_struct (fs := Try.prog.fieldsOf 35) (by kernel_rfl) reads_Policy h1 (hval 1 _ v1 rfl rfl)
  obtain ⟨k, hq2, k2⟩ := arg_one (dec := fun n : Int => PV.v (.int .i64 n)) (reads_int (k := .i64) (by kernel_rfl)) h2 (cells_int (k := .i64) (by kernel_rfl) (hval 2 _ v2 rfl rfl))
  have hb2 := bounds_i64 hq2
  obtain ⟨o, hq3, k3⟩ := arg_one (dec := fun n : Int => PV.v (.int .i64 n)) (reads_int (k := .i64) (by kernel_rfl)) h3 (cells_int (k := .i64) (by kernel_rfl) (hval 3 _ v3 rfl rfl))
  have hb3 := bounds_i64 hq3
  refine (law_calls (us := [v0, v1, v2, v3]) (law_PolicySteps L q k o) (fun ρ Hp => ?_)).mono fun e W' ⟨he, hx⟩ => ?_
  · simp only [AV.Ts]
    exact ⟨_, _, rfl, k0, ⟨_, _, rfl, (k1 _ _), ⟨_, _, rfl, k2, ⟨_, _, rfl, k3, rfl⟩⟩⟩⟩
  · exact ⟨_, he, law_post (by kernel_rfl) (of_decide_eq_true (by kernel_rfl)) (tb := 4) (by kernel_rfl) (by kernel_rfl) rfl rfl rfl rfl hW' hx⟩

theorem policySteps_holds : Rows.PolicyStepsSaid :=
  OpenClaim.holds_of_wide 5 Try.f5 rfl rfl rfl rfl rfl rfl rfl ⟨rfl, rfl, rfl, rfl, rfl⟩ rfl rfl rfl rfl rfl (by kernel_rfl) Try.func5 (by kernel_rfl)
    (of_decide_eq_true (by kernel_rfl)) (by unfold Func.isWrapper; first | (rw [if_pos (by decide +kernel)]; kernel_rfl) | (rw [if_neg (by decide +kernel)]; exact ⟨rfl, rfl⟩))
    (fun os started H enc _ => policySteps_lifted os started H enc)

#print axioms policySteps_holds
end Go.Proofs.Yteccnpkpjaknkaa
