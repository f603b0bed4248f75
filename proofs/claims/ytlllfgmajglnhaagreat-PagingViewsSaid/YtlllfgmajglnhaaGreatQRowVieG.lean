/-
  What the row of pagingViews asks of the program as a whole, part by part.
-/
import Derived.Test.YtlllfgmajglnhaaGreatRows
import Derived.JoinedOf
set_option linter.defProp false
namespace Go.Proofs.YtlllfgmajglnhaaGreat
open Go
def Y0{a b:AH}(h1:a=true)(h2:b=true):(a && b)=true:=by rw[h1,h2];rfl
set_option maxHeartbeats 4000000 in
set_option maxRecDepth 100000 in
def Qi3:joinedFacts Tryz.pinned.checked.prog 6 Tryz.f6 Rows.pagingViewsSpec Rows.pagingViewsRow=true:=by
 unfold joinedFacts
 refine(Y0 (Y0 (Y0 (Y0 (Y0 (Y0 (Y0 (Y0 (Y0 (Y0 (Y0 (Y0 (Y0 (Y0 (Y0 (Y0 (Y0 (Y0 (Y0 (Y0 (Y0 (Y0 (Y0 (Y0 (Y0 (Y0 (Y0 (Y0 (Y0 (Y0 (Y0 ?_ ?_) ?_) ?_) ?_) ?_) ?_) ?_) ?_) ?_) ?_) ?_) ?_) ?_) ?_) ?_) ?_) ?_) ?_) ?_) ?_) ?_) ?_) ?_) ?_) ?_) ?_) ?_) ?_) ?_) ?_) ?_)
 all_goals (as_aux_lemma=>kernel_rfl)
end Go.Proofs.YtlllfgmajglnhaaGreat
