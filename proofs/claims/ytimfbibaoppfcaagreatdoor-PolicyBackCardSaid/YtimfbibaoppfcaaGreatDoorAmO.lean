/-
  The abstract machine, part O: a header kept as pure data. No project text.
-/
import Derived.Test.YtimfbibaoppfcaaGreatDoorAmN
set_option linter.unusedSimpArgs false
set_option linter.unusedVariables false
namespace Go.Proofs.YtimfbibaoppfcaaGreatDoor.AM
open Go
theorem AWp.cast {P : Program} {Γ : Ctx} {c : Code} {s s' : AS} {Q : Exit → AS → Prop} (h : s = s') (h' : AWp P Γ c s' Q) : AWp P Γ c s Q := h ▸ h'
end Go.Proofs.YtimfbibaoppfcaaGreatDoor.AM
