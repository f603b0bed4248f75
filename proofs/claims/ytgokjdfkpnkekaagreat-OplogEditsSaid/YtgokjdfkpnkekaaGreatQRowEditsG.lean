/-
  What the row of oplogEdits asks of the program as a whole, part by part.
-/
import Derived.Test.YtgokjdfkpnkekaaGreatRows
import Derived.JoinedOf
namespace Go.Proofs.YtgokjdfkpnkekaaGreat
open Go
theorem YE{a b:Bool}(h1:a=true)(h2:b=true):(a && b)=true:=by rw[h1,h2];rfl
set_option maxHeartbeats 4000000 in
set_option maxRecDepth 100000 in
theorem Qf9:joinedFacts Tryz.pinned.checked.prog 5 Tryz.f5 Rows.oplogEditsSpec Rows.oplogEditsRow=true:=by
 unfold joinedFacts
 refine(YE (YE (YE (YE (YE (YE (YE (YE (YE (YE (YE (YE (YE (YE (YE (YE (YE (YE (YE (YE (YE (YE (YE (YE (YE (YE (YE (YE (YE (YE (YE ?_ ?_) ?_) ?_) ?_) ?_) ?_) ?_) ?_) ?_) ?_) ?_) ?_) ?_) ?_) ?_) ?_) ?_) ?_) ?_) ?_) ?_) ?_) ?_) ?_) ?_) ?_) ?_) ?_) ?_) ?_) ?_)
 all_goals (as_aux_lemma=>kernel_rfl)
end Go.Proofs.YtgokjdfkpnkekaaGreat
