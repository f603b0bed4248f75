/-
  What the row of pagingMajority asks of the program as a whole, part by part.
-/
import Derived.Test.YtlllfgmajglnhaaGreatRows
import Derived.JoinedOf
namespace Go.Proofs.YtlllfgmajglnhaaGreat
open Go
theorem Z4{a b:Bool}(h1:a=true)(h2:b=true):(a && b)=true:=by rw[h1,h2];rfl
set_option maxHeartbeats 4000000 in
set_option maxRecDepth 100000 in
theorem QdQ:joinedFacts Tryz.pinned.checked.prog 3 Tryz.f3 Rows.pagingMajoritySpec Rows.pagingMajorityRow=true:=by
 unfold joinedFacts
 refine(Z4 (Z4 (Z4 (Z4 (Z4 (Z4 (Z4 (Z4 (Z4 (Z4 (Z4 (Z4 (Z4 (Z4 (Z4 (Z4 (Z4 (Z4 (Z4 (Z4 (Z4 (Z4 (Z4 (Z4 (Z4 (Z4 (Z4 (Z4 (Z4 (Z4 (Z4 ?_ ?_) ?_) ?_) ?_) ?_) ?_) ?_) ?_) ?_) ?_) ?_) ?_) ?_) ?_) ?_) ?_) ?_) ?_) ?_) ?_) ?_) ?_) ?_) ?_) ?_) ?_) ?_) ?_) ?_) ?_) ?_)
 all_goals (as_aux_lemma=>kernel_rfl)
end Go.Proofs.YtlllfgmajglnhaaGreat
