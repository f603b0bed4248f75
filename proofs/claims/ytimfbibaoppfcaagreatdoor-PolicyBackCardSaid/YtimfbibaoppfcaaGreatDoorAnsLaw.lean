/-
  Answers, in plain Lean: those that dice make, and that a text is read back. No project text.
-/
import Derived.Test.YtimfbibaoppfcaaGreatDoorAnsRef
set_option linter.unusedSimpArgs false
set_option linter.unusedVariables false
namespace Go.Proofs.YtimfbibaoppfcaaGreatDoor
open Go AM
def noSp (s : ByteArray) : Prop := ∀ c ∈ unB s, c ≠ 32
theorem noSp_itoa {n : Int} (h : 0 ≤ n) : noSp (itoaB n) := by
  obtain ⟨k, rfl⟩ : ∃ k : Nat, n = (k : Int) := ⟨n.toNat, by omega⟩
  intro c hc
  rw [itoaB_nat, un_mk] at hc
  have := dec_dig k c hc
  intro e; subst e
  exact absurd this (by decide)
theorem person_at {c : D.Config} (h : CfgOK c) {i : Nat} (hi : i < 4) : person c.People (nth c.People i).Name = (((i : Nat) : Int), true) := by
  obtain ⟨h1, h2⟩ := findP_spec c.People (nth c.People i).Name
  have hl := h.plen
  have hle : findP c.People (nth c.People i).Name ≤ i := Nat.le_of_not_lt fun hlt => h1 i hlt rfl
  have := h2 (by omega)
  have e := h.nmd (by omega) hi this
  unfold person; rw [e, if_pos (by omega)]
end Go.Proofs.YtimfbibaoppfcaaGreatDoor
