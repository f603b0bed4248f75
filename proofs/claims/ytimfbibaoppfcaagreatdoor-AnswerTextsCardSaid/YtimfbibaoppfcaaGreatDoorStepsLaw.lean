/-
  PolicySteps, plain: how great the books of the dice are, changed or not.
-/
import Derived.Test.YtimfbibaoppfcaaGreatDoorOddPlain
import Derived.Test.YtimfbibaoppfcaaGreatDoorRefLaw
set_option linter.unusedSimpArgs false
set_option linter.unusedVariables false
namespace Go.Proofs.YtimfbibaoppfcaaGreatDoor
open Go AM
end Go.Proofs.YtimfbibaoppfcaaGreatDoor
