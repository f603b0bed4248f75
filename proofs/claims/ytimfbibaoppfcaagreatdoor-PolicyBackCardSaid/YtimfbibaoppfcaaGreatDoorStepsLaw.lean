/-
  PolicySteps, plain: how great the books of the dice are, changed or not.
-/
import Derived.Test.YtimfbibaoppfcaaGreatDoorOddPlain
import Derived.Test.YtimfbibaoppfcaaGreatDoorRefLaw
set_option linter.unusedSimpArgs false
set_option linter.unusedVariables false
namespace Go.Proofs.YtimfbibaoppfcaaGreatDoor
open Go AM
theorem targets_len {L : List Int} {nT : Nat} : ∀ (n : Nat) (ts : List D.Target) (i : Nat), (targets L nT n ts i).1.length = ts.length + n
  | 0, ts, i => rfl
  | n + 1, ts, i => by rw [targets, targets_len]; simp; omega
end Go.Proofs.YtimfbibaoppfcaaGreatDoor
