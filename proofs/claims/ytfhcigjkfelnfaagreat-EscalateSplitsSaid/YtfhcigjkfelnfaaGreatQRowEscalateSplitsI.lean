/-
  The law EscalateSplits answers true at every input, and its arguments read behind the call as before. No condition.
-/
import Derived.Test.YtfhcigjkfelnfaaGreatRows
import Derived.Test.YtfhcigjkfelnfaaGreatQRowEscalateSplitsA
import Derived.Test.YtfhcigjkfelnfaaGreatQRowEscalateSplitsG
import Derived.Test.YtfhcigjkfelnfaaGreatQRowEscalateSplitsH
set_option linter.unusedSimpArgs false
set_option linter.unusedVariables false
namespace Go.Proofs.YtfhcigjkfelnfaaGreat
open Go AM Go.ChangeShapes Go.WideShapes Go.ChangeAt Go.RowKit
theorem law_EscalateSplits (t : List Int) (n : Int) (m : Int) (h_n : 0 ≤ n ∧ n ≤ 65535) (h_m : 0 ≤ m ∧ m ≤ 65535) : SpecIs Tryz.prog 11 [.p (.sl false 1 (t.map D.cInt)), .p (.v (.int .u16 n)), .p (.v (.int .u16 m))] [] (vB true) [] := by
  obtain ⟨L1, _, _, h⟩ := (law29_EscalateSplits_ok 1000).spec (t, n, m, ()) () (true, ()) ()
    (by show optc (law29_EscalateSplits 1000 t n m) _ = _; rw [escalateSplits_true t n m h_n h_m]; rfl) (fun _ _ => 0) (fun n t' l v hn => by change AM.look n [] = _ at hn; simp [AM.look] at hn)
  exact h
set_option maxRecDepth 100000 in
theorem escalateSplits_lifted (os : Os) (started : os.Started) (H : Type) (enc : TypeId × Value → H) :
    ReturnsInHanded {} Tryz.checked os 11 .any (Rows.escalateSplitsSpec.pre6 enc Tryz.prog Tryz.f11 Rows.escalateSplitsRow.domain false)
      (Rows.escalateSplitsSpec.post enc Tryz.prog Tryz.f11 Rows.escalateSplitsRow.apart Rows.escalateSplitsRow.fresh Rows.escalateSplitsRow.handsOn Rows.escalateSplitsRow.again) := by
  refine returnsInHanded_of_change (C := Tryz.checked) (by kernel_rfl) started (by kernel_rfl) Tryz.func11
    (ChangeSpec.witness6 (enc := enc) (C := Tryz.checked) false ⟨#[], #[.slice none 0 0, .int .u16 0, .int .u16 0], []⟩ 8 (by kernel_rfl) (by kernel_rfl) (by kernel_rfl) (by kernel_rfl)) ?_
  intro W base args ds gs before hval0 hW _ _
  have hval : ∀ (j : Nat) t v, Tryz.f11.params[j]? = some t → args[j]? = some v → Value.okWide Tryz.prog W .any base t v := hval0
  have hW' := hW
  obtain ⟨p, q, hA0, hV, rfl, _, _⟩ := hW
  have hA : DataW.TrodAll enc Tryz.prog W 0 (fun _ => true) true Tryz.f11.params.toList args.toList ds p := hA0
  rw [Tryz.params11] at hA hval
  obtain ⟨v0, v1, v2, d0, d1, d2, p0, p1, p2, rfl, rfl, rfl, h0, h1, h2⟩ := trodAll_three hA
  obtain ⟨t, hq0, k0⟩ := arg_one (dec := fun l : List Int => PV.sl false 1 (l.map D.cInt)) (reads_slice (e := 3) (n := 1) (by kernel_rfl) (by kernel_rfl) (by decide) (fun _ => rfl) (reads_int (k := .i64) (by kernel_rfl))) h0 (cells_slice (e := 3) (by kernel_rfl) (hval 0 _ v0 rfl rfl))
  obtain ⟨n, hq1, k1⟩ := arg_one (dec := fun n : Int => PV.v (.int .u16 n)) (reads_int (k := .u16) (by kernel_rfl)) h1 (cells_int (k := .u16) (by kernel_rfl) (hval 1 _ v1 rfl rfl))
  have hb1 := bounds_u16 hq1
  obtain ⟨m, hq2, k2⟩ := arg_one (dec := fun n : Int => PV.v (.int .u16 n)) (reads_int (k := .u16) (by kernel_rfl)) h2 (cells_int (k := .u16) (by kernel_rfl) (hval 2 _ v2 rfl rfl))
  have hb2 := bounds_u16 hq2
  refine (law_calls (us := [v0, v1, v2]) (law_EscalateSplits t n m hb1 hb2) trivial (fun ρ Hp => ?_)).mono fun e W' ⟨he, hx⟩ => ?_
  · simp only [AV.Ts]
    exact ⟨_, _, rfl, k0, ⟨_, _, rfl, k1, ⟨_, _, rfl, k2, rfl⟩⟩⟩
  · exact ⟨_, he, law_post (by kernel_rfl) (of_decide_eq_true (by kernel_rfl)) (tb := 4) (by kernel_rfl) (by kernel_rfl) rfl rfl rfl rfl hW' hx⟩
theorem escalateSplits_holds : Rows.EscalateSplitsSaid :=
  OpenClaim.holds_of_wide 11 Tryz.f11 rfl rfl rfl rfl rfl rfl rfl ⟨rfl, rfl, rfl, rfl, rfl⟩ rfl rfl rfl rfl rfl (by kernel_rfl) Tryz.func11 escalateSplits_closed
    (of_decide_eq_true (by kernel_rfl)) (by unfold Func.isWrapper; first | (rw [if_pos (by decide +kernel)]; kernel_rfl) | (rw [if_neg (by decide +kernel)]; exact ⟨rfl, rfl⟩))
    (fun os started H enc _ => escalateSplits_lifted os started H enc)
#print axioms escalateSplits_holds
end Go.Proofs.YtfhcigjkfelnfaaGreat
