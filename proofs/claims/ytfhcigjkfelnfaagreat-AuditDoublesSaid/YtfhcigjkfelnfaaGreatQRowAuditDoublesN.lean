/-
  What the row of auditDoubles asks of the program as a whole, part by part.
-/
import Derived.Test.YtfhcigjkfelnfaaGreatRows
import Derived.JoinedOf
namespace Go.Proofs.YtfhcigjkfelnfaaGreat
open Go
theorem and_of {a b : Bool} (h1 : a = true) (h2 : b = true) : (a && b) = true := by rw [h1, h2]; rfl
set_option maxHeartbeats 4000000 in
set_option maxRecDepth 100000 in
theorem auditDoubles_closed : joinedFacts Tryz.pinned.checked.prog 3 Tryz.f3 Rows.auditDoublesSpec Rows.auditDoublesRow = true := by
  unfold joinedFacts
  refine (and_of (and_of (and_of (and_of (and_of (and_of (and_of (and_of (and_of (and_of (and_of (and_of (and_of (and_of (and_of (and_of (and_of (and_of (and_of (and_of (and_of (and_of (and_of (and_of (and_of (and_of (and_of (and_of (and_of (and_of (and_of ?_ ?_) ?_) ?_) ?_) ?_) ?_) ?_) ?_) ?_) ?_) ?_) ?_) ?_) ?_) ?_) ?_) ?_) ?_) ?_) ?_) ?_) ?_) ?_) ?_) ?_) ?_) ?_) ?_) ?_) ?_) ?_)
  all_goals (as_aux_lemma => kernel_rfl)
end Go.Proofs.YtfhcigjkfelnfaaGreat
