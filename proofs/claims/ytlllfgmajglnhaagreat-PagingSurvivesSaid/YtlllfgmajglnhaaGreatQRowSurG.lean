/-
  What the row of pagingSurvives asks of the program as a whole, part by part.
-/
import Derived.Test.YtlllfgmajglnhaaGreatRows
import Derived.JoinedOf
namespace Go.Proofs.YtlllfgmajglnhaaGreat
open Go
theorem YN{a b:Bool}(h1:a=true)(h2:b=true):(a && b)=true:=by rw[h1,h2];rfl
set_option maxHeartbeats 4000000 in
set_option maxRecDepth 100000 in
theorem QeA:joinedFacts Tryz.pinned.checked.prog 4 Tryz.f4 Rows.pagingSurvivesSpec Rows.pagingSurvivesRow=true:=by
 unfold joinedFacts
 refine(YN (YN (YN (YN (YN (YN (YN (YN (YN (YN (YN (YN (YN (YN (YN (YN (YN (YN (YN (YN (YN (YN (YN (YN (YN (YN (YN (YN (YN (YN (YN ?_ ?_) ?_) ?_) ?_) ?_) ?_) ?_) ?_) ?_) ?_) ?_) ?_) ?_) ?_) ?_) ?_) ?_) ?_) ?_) ?_) ?_) ?_) ?_) ?_) ?_) ?_) ?_) ?_) ?_) ?_) ?_)
 all_goals (as_aux_lemma=>kernel_rfl)
end Go.Proofs.YtlllfgmajglnhaaGreat
