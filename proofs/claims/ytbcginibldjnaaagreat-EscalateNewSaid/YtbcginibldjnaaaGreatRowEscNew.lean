/-
  The law EscalateNew answers true at every input, and its arguments read behind the call as before. No condition.
-/
import Derived.Test.YtbcginibldjnaaaGreatRows
import Derived.Test.YtbcginibldjnaaaGreatRead
import Derived.Test.YtbcginibldjnaaaGreatEscNew
set_option linter.unusedSimpArgs false
set_option linter.unusedVariables false
namespace Go.Proofs.YtbcginibldjnaaaGreat
open Go AM Go.ChangeShapes Go.WideShapes Go.ChangeAt Go.RowKit
theorem law_EscalateNew (L : List Int) (id_ : Int) (pol_ : Int) (start_ : Int) : SpecIs Tryz.prog 3 [.p (.sl false 1 (L.map D.cInt)), .p (.v (.int .i64 id_)), .p (.v (.int .i64 pol_)), .p (.v (.int .i64 start_))] [] (vB true) [] := by
  obtain ⟨L1, _, _, h⟩ := (law29_EscalateNew_ok 1000).spec (L, id_, pol_, start_, ()) () (true, ()) ()
    (by show optc (law29_EscalateNew 1000 L id_ pol_ start_) _ = _; rw [escalateNew_true]; rfl) (fun _ _ => 0) (fun n t' l v hn => by change AM.look n [] = _ at hn; simp [AM.look] at hn)
  exact h
set_option maxRecDepth 100000 in
theorem escalateNew_lifted (os : Os) (started : os.Started) (H : Type) (enc : TypeId × Value → H) :
    ReturnsInHanded {} Tryz.checked os 3 .any (Rows.escalateNewSpec.pre6 enc Tryz.prog Tryz.f3 Rows.escalateNewRow.domain false)
      (Rows.escalateNewSpec.post enc Tryz.prog Tryz.f3 Rows.escalateNewRow.apart Rows.escalateNewRow.fresh Rows.escalateNewRow.handsOn Rows.escalateNewRow.again) := by
  refine returnsInHanded_of_change (C := Tryz.checked) (by kernel_rfl) started (by kernel_rfl) Tryz.func3
    (ChangeSpec.witness6 (enc := enc) (C := Tryz.checked) false ⟨#[], #[.slice none 0 0, .int .i64 0, .int .i64 0, .int .i64 0], []⟩ 8 (by kernel_rfl) (by kernel_rfl) (by kernel_rfl) (by kernel_rfl)) ?_
  intro W base args ds gs before hval0 hW _ _
  have hval : ∀ (j : Nat) t v, Tryz.f3.params[j]? = some t → args[j]? = some v → Value.okWide Tryz.prog W .any base t v := hval0
  have hW' := hW
  obtain ⟨p, q, hA0, hV, rfl, _, _⟩ := hW
  have hA : DataW.TrodAll enc Tryz.prog W 0 (fun _ => true) true Tryz.f3.params.toList args.toList ds p := hA0
  rw [Tryz.params3] at hA hval
  obtain ⟨v0, v1, v2, v3, d0, d1, d2, d3, p0, p1, p2, p3, rfl, rfl, rfl, h0, h1, h2, h3⟩ := trodAll_four hA
  obtain ⟨L, hq0, k0⟩ := arg_one (dec := fun l : List Int => PV.sl false 1 (l.map D.cInt)) (reads_slice (e := 3) (n := 1) (by kernel_rfl) (by kernel_rfl) (by decide) (fun _ => rfl) (reads_int (k := .i64) (by kernel_rfl))) h0 (cells_slice (e := 3) (by kernel_rfl) (hval 0 _ v0 rfl rfl))
  obtain ⟨id_, hq1, k1⟩ := arg_one (dec := fun n : Int => PV.v (.int .i64 n)) (reads_int (k := .i64) (by kernel_rfl)) h1 (cells_int (k := .i64) (by kernel_rfl) (hval 1 _ v1 rfl rfl))
  have hb1 := bounds_i64 hq1
  obtain ⟨pol_, hq2, k2⟩ := arg_one (dec := fun n : Int => PV.v (.int .i64 n)) (reads_int (k := .i64) (by kernel_rfl)) h2 (cells_int (k := .i64) (by kernel_rfl) (hval 2 _ v2 rfl rfl))
  have hb2 := bounds_i64 hq2
  obtain ⟨start_, hq3, k3⟩ := arg_one (dec := fun n : Int => PV.v (.int .i64 n)) (reads_int (k := .i64) (by kernel_rfl)) h3 (cells_int (k := .i64) (by kernel_rfl) (hval 3 _ v3 rfl rfl))
  have hb3 := bounds_i64 hq3
  refine (law_calls (us := [v0, v1, v2, v3]) (law_EscalateNew L id_ pol_ start_) trivial (fun ρ Hp => ?_)).mono fun e W' ⟨he, hx⟩ => ?_
  · simp only [AV.Ts]
    exact ⟨_, _, rfl, k0, ⟨_, _, rfl, k1, ⟨_, _, rfl, k2, ⟨_, _, rfl, k3, rfl⟩⟩⟩⟩
  · exact ⟨_, he, law_post (by kernel_rfl) (of_decide_eq_true (by kernel_rfl)) (tb := 4) (by kernel_rfl) (by kernel_rfl) rfl rfl rfl rfl hW' hx⟩

theorem escalateNew_holds : Rows.EscalateNewSaid :=
  OpenClaim.holds_of_wide 3 Tryz.f3 rfl rfl rfl rfl rfl rfl rfl ⟨rfl, rfl, rfl, rfl, rfl⟩ rfl rfl rfl rfl rfl (by kernel_rfl) Tryz.func3 (by kernel_rfl)
    (of_decide_eq_true (by kernel_rfl)) (by unfold Func.isWrapper; first | (rw [if_pos (by decide +kernel)]; kernel_rfl) | (rw [if_neg (by decide +kernel)]; exact ⟨rfl, rfl⟩))
    (fun os started H enc _ => escalateNew_lifted os started H enc)

#print axioms escalateNew_holds
end Go.Proofs.YtbcginibldjnaaaGreat
