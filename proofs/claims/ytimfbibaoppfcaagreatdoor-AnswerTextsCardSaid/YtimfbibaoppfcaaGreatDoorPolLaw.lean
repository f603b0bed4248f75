/-
  Package policy, plain laws: offsets of good policies; the books that dice make are good.
-/
import Derived.Test.YtimfbibaoppfcaaGreatDoorMadePlain
set_option linter.unusedSimpArgs false
set_option linter.unusedVariables false
namespace Go.Proofs.YtimfbibaoppfcaaGreatDoor
open Go AM
end Go.Proofs.YtimfbibaoppfcaaGreatDoor
