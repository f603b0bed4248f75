/-
  The reference's counts and offsets, in plain Lean.
-/
import Derived.Test.YtimfbibaoppfcaaGreatDoorGrowLaw
set_option linter.unusedSimpArgs false
set_option linter.unusedVariables false
namespace Go.Proofs.YtimfbibaoppfcaaGreatDoor
open Go AM
end Go.Proofs.YtimfbibaoppfcaaGreatDoor
