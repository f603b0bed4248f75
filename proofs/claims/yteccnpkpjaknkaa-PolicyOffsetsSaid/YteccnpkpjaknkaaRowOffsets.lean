/-
  The row: PolicyOffsets.
-/
import Derived.Test.YteccnpkpjaknkaaRead
import Derived.Test.YteccnpkpjaknkaaPolWalk
set_option linter.unusedSimpArgs false
set_option linter.unusedVariables false
namespace Go.Proofs.Yteccnpkpjaknkaa
open Go AM Go.ChangeShapes Go.WideShapes Go.ChangeAt Go.RowKit

theorem try_own : ownKnob Try.prog.godebug = none := by kernel_rfl
theorem try_laid : laidOutB Try.prog = true := by kernel_rfl

set_option maxRecDepth 100000 in
theorem policyOffsets_lifted (os : Os) (started : os.Started) (H : Type) (enc : TypeId × Value → H) :
    ReturnsInHanded {} Try.checked os 3 .any (Rows.policyOffsetsSpec.pre6 enc Try.prog Try.f3 Rows.policyOffsetsRow.domain false)
      (Rows.policyOffsetsSpec.post enc Try.prog Try.f3 Rows.policyOffsetsRow.apart Rows.policyOffsetsRow.fresh Rows.policyOffsetsRow.handsOn Rows.policyOffsetsRow.again) := by
  refine returnsInHanded_of_change (C := Try.checked) try_own started (by kernel_rfl) Try.func3
    (ChangeSpec.witness6 (enc := enc) (C := Try.checked) false ⟨#[], #[.slice none 0 0, .int .u16 0], []⟩ 8 (by kernel_rfl) (by kernel_rfl) (by kernel_rfl) (by kernel_rfl)) ?_
  intro W base args ds gs before hval0 hW _ _
  have hval : ∀ (j : Nat) t v, Try.f3.params[j]? = some t → args[j]? = some v → Value.okWide Try.prog W .any base t v := hval0
  have hW' := hW
  obtain ⟨p, q, hA0, hV, rfl, _, _⟩ := hW
  have hA : DataW.TrodAll enc Try.prog W 0 (fun _ => true) true Try.f3.params.toList args.toList ds p := hA0
  rw [Try.params3] at hA hval
  obtain ⟨v0, v1, d0, d1, p0, p1, rfl, rfl, rfl, h0, h1⟩ := trodAll_two hA
  obtain ⟨o, ho, k1⟩ := arg_one (dec := fun n : Int => PV.v (.int .u16 n)) (reads_int (k := .u16) (by kernel_rfl)) h1 (cells_int (k := .u16) (by kernel_rfl) (hval 1 _ v1 rfl rfl))
  obtain ⟨L, hL, k0⟩ := arg_one (dec := fun l : List Int => PV.sl false 1 (l.map D.cInt)) (reads_slice (e := 3) (n := 1) (by kernel_rfl) (by kernel_rfl) (by decide) (fun _ => rfl) (reads_int (k := .i64) (by kernel_rfl))) h0 (cells_slice (e := 3) (by kernel_rfl) (hval 0 _ v0 rfl rfl))
  have hb := bounds_u16 ho
  refine (law_calls (us := [v0, v1]) (law_PolicyOffsets L o hb.1 hb.2) (fun ρ Hp => ?_)).mono fun e W' ⟨he, hx⟩ => ?_
  · simp only [AV.Ts, AV.R]
    exact ⟨_, _, rfl, k0, _, _, rfl, k1, rfl⟩
  · exact ⟨_, he, law_post try_laid (of_decide_eq_true (by kernel_rfl)) (tb := 4) (by kernel_rfl) (by kernel_rfl) rfl rfl rfl rfl hW' hx⟩

theorem policyOffsets_holds : Rows.PolicyOffsetsSaid :=
  OpenClaim.holds_of_wide 3 Try.f3 rfl rfl rfl rfl rfl rfl rfl ⟨rfl, rfl, rfl, rfl, rfl⟩ rfl rfl rfl rfl rfl (by kernel_rfl) Try.func3 (by kernel_rfl)
    (of_decide_eq_true (by kernel_rfl)) (by unfold Func.isWrapper; first | (rw [if_pos (by decide +kernel)]; kernel_rfl) | (rw [if_neg (by decide +kernel)]; exact ⟨rfl, rfl⟩))
    (fun os started H enc _ => policyOffsets_lifted os started H enc)

#print axioms policyOffsets_holds
end Go.Proofs.Yteccnpkpjaknkaa
