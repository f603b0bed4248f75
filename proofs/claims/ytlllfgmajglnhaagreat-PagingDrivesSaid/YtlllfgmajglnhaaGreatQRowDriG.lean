/-
  What the row of pagingDrives asks of the program as a whole, part by part.
-/
import Derived.Test.YtlllfgmajglnhaaGreatRows
import Derived.JoinedOf
set_option linter.defProp false
set_option linter.constructorNameAsVariable false
namespace Go.Proofs.YtlllfgmajglnhaaGreat
open Go
def Y3{a b:Bool}(h1:a=true)(h2:b=true):(a && b)=true:=by rw[h1,h2];rfl
set_option maxHeartbeats 4000000 in
set_option maxRecDepth 100000 in
def QhP:joinedFacts Tryz.pinned.checked.prog 9 Tryz.f9 Rows.pagingDrivesSpec Rows.pagingDrivesRow=true:=by
 unfold joinedFacts
 refine(Y3 (Y3 (Y3 (Y3 (Y3 (Y3 (Y3 (Y3 (Y3 (Y3 (Y3 (Y3 (Y3 (Y3 (Y3 (Y3 (Y3 (Y3 (Y3 (Y3 (Y3 (Y3 (Y3 (Y3 (Y3 (Y3 (Y3 (Y3 (Y3 (Y3 (Y3 ?_ ?_) ?_) ?_) ?_) ?_) ?_) ?_) ?_) ?_) ?_) ?_) ?_) ?_) ?_) ?_) ?_) ?_) ?_) ?_) ?_) ?_) ?_) ?_) ?_) ?_) ?_) ?_) ?_) ?_) ?_) ?_)
 all_goals (as_aux_lemma=>kernel_rfl)
end Go.Proofs.YtlllfgmajglnhaaGreat
