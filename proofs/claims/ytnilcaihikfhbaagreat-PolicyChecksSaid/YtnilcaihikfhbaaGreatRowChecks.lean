/-
  The law PolicyChecks answers true at every input, and its arguments read behind the call as before. No condition.
-/
import Derived.Test.YtnilcaihikfhbaaGreatReadPol
import Derived.Test.YtnilcaihikfhbaaGreatChecksWalk
set_option linter.unusedSimpArgs false
set_option linter.unusedVariables false
namespace Go.Proofs.YtnilcaihikfhbaaGreat
open Go AM Go.ChangeShapes Go.WideShapes Go.ChangeAt Go.RowKit
theorem okq {q : D.Book} (h : OkBook q) : ∀ t ∈ q.Teams, t.Members.length ≤ 9223372036854775807 := fun t ht => by
  obtain ⟨i, hi, he⟩ := List.getElem_of_mem ht
  have := h.1.1 i t (by rw [List.getElem?_eq_getElem hi, he])
  exact Nat.le_trans this.2.2 (by decide)

set_option maxRecDepth 100000 in
theorem policyChecks_lifted (os : Os) (started : os.Started) (H : Type) (enc : TypeId × Value → H) :
    ReturnsInHanded {} Tryz.checked os 3 .any (Rows.policyChecksSpec.pre6 enc Tryz.prog Tryz.f3 Rows.policyChecksRow.domain false)
      (Rows.policyChecksSpec.post enc Tryz.prog Tryz.f3 Rows.policyChecksRow.apart Rows.policyChecksRow.fresh Rows.policyChecksRow.handsOn Rows.policyChecksRow.again) := by
  refine returnsInHanded_of_change (C := Tryz.checked) (by kernel_rfl) started (by kernel_rfl) Tryz.func3
    (ChangeSpec.witness6 (enc := enc) (C := Tryz.checked) false ⟨#[], #[.slice none 0 0, .agg #[.slice none 0 0, .slice none 0 0]], []⟩ 8 (by kernel_rfl) (by kernel_rfl) (by kernel_rfl) (by kernel_rfl)) ?_
  intro W base args ds gs before hval0 hW _ _
  have hval : ∀ (j : Nat) t v, Tryz.f3.params[j]? = some t → args[j]? = some v → Value.okWide Tryz.prog W .any base t v := hval0
  have hW' := hW
  obtain ⟨p, q, hA0, hV, rfl, _, _⟩ := hW
  have hA : DataW.TrodAll enc Tryz.prog W 0 (fun _ => true) true Tryz.f3.params.toList args.toList ds p := hA0
  rw [Tryz.params3] at hA hval
  obtain ⟨v0, v1, d0, d1, p0, p1, rfl, rfl, rfl, h0, h1⟩ := trodAll_two hA
  obtain ⟨L, hq0, k0⟩ := arg_one (dec := fun l : List Int => PV.sl false 1 (l.map D.cInt)) (reads_slice (e := 3) (n := 1) (by kernel_rfl) (by kernel_rfl) (by decide) (fun _ => rfl) (reads_int (k := .i64) (by kernel_rfl))) h0 (cells_slice (e := 3) (by kernel_rfl) (hval 0 _ v0 rfl rfl))
  obtain ⟨q, hq1, k1⟩ := arg_struct (fs := Tryz.prog.fieldsOf 26) (by kernel_rfl) reads_Book h1 (hval 1 _ v1 rfl rfl)
  refine (law_calls (us := [v0, v1]) (law_PolicyChecks L q (okq hq1)) (fun ρ Hp => ?_)).mono fun e W' ⟨he, hx⟩ => ?_
  · simp only [AV.Ts]
    exact ⟨_, _, rfl, k0, ⟨_, _, rfl, (k1 _ _), rfl⟩⟩
  · exact ⟨_, he, law_post (by kernel_rfl) (of_decide_eq_true (by kernel_rfl)) (tb := 4) (by kernel_rfl) (by kernel_rfl) rfl rfl rfl rfl hW' hx⟩

theorem policyChecks_holds : Rows.PolicyChecksSaid :=
  OpenClaim.holds_of_wide 3 Tryz.f3 rfl rfl rfl rfl rfl rfl rfl ⟨rfl, rfl, rfl, rfl, rfl⟩ rfl rfl rfl rfl rfl (by kernel_rfl) Tryz.func3 (by kernel_rfl)
    (of_decide_eq_true (by kernel_rfl)) (by unfold Func.isWrapper; first | (rw [if_pos (by decide +kernel)]; kernel_rfl) | (rw [if_neg (by decide +kernel)]; exact ⟨rfl, rfl⟩))
    (fun os started H enc _ => policyChecks_lifted os started H enc)

#print axioms policyChecks_holds
end Go.Proofs.YtnilcaihikfhbaaGreat
