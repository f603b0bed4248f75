/-
  Package policy, plain laws: another wait of one step, one more round.
-/
import Derived.Test.YtimfbibaoppfcaaGreatDoorPolLaw
set_option linter.unusedSimpArgs false
set_option linter.unusedVariables false
namespace Go.Proofs.YtimfbibaoppfcaaGreatDoor
open Go AM
end Go.Proofs.YtimfbibaoppfcaaGreatDoor
