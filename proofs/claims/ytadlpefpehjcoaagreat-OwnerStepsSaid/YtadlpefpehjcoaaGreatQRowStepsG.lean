/-
  What the row of ownerSteps asks of the program as a whole, part by part.
-/
import Derived.Test.YtadlpefpehjcoaaGreatRows
import Derived.JoinedOf
namespace Go.Proofs.YtadlpefpehjcoaaGreat
open Go
theorem YJ{a b:Bool}(h1:a=true)(h2:b=true):(a && b)=true:=by rw[h1,h2];rfl
set_option maxHeartbeats 4000000 in
set_option maxRecDepth 100000 in
theorem Qg3:joinedFacts Tryz.pinned.checked.prog 7 Tryz.f7 Rows.ownerStepsSpec Rows.ownerStepsRow=true:=by
 unfold joinedFacts
 refine(YJ (YJ (YJ (YJ (YJ (YJ (YJ (YJ (YJ (YJ (YJ (YJ (YJ (YJ (YJ (YJ (YJ (YJ (YJ (YJ (YJ (YJ (YJ (YJ (YJ (YJ (YJ (YJ (YJ (YJ (YJ ?_ ?_) ?_) ?_) ?_) ?_) ?_) ?_) ?_) ?_) ?_) ?_) ?_) ?_) ?_) ?_) ?_) ?_) ?_) ?_) ?_) ?_) ?_) ?_) ?_) ?_) ?_) ?_) ?_) ?_) ?_) ?_)
 all_goals (as_aux_lemma=>kernel_rfl)
end Go.Proofs.YtadlpefpehjcoaaGreat
