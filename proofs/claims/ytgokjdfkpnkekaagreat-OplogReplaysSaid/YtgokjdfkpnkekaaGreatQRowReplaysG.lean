/-
  What the row of oplogReplays asks of the program as a whole, part by part.
-/
import Derived.Test.YtgokjdfkpnkekaaGreatRows
import Derived.JoinedOf
namespace Go.Proofs.YtgokjdfkpnkekaaGreat
open Go
theorem YC{a b:Bool}(h1:a=true)(h2:b=true):(a && b)=true:=by rw[h1,h2];rfl
set_option maxHeartbeats 4000000 in
set_option maxRecDepth 100000 in
theorem QeH:joinedFacts Tryz.pinned.checked.prog 6 Tryz.f6 Rows.oplogReplaysSpec Rows.oplogReplaysRow=true:=by
 unfold joinedFacts
 refine(YC (YC (YC (YC (YC (YC (YC (YC (YC (YC (YC (YC (YC (YC (YC (YC (YC (YC (YC (YC (YC (YC (YC (YC (YC (YC (YC (YC (YC (YC (YC ?_ ?_) ?_) ?_) ?_) ?_) ?_) ?_) ?_) ?_) ?_) ?_) ?_) ?_) ?_) ?_) ?_) ?_) ?_) ?_) ?_) ?_) ?_) ?_) ?_) ?_) ?_) ?_) ?_) ?_) ?_) ?_)
 all_goals (as_aux_lemma=>kernel_rfl)
end Go.Proofs.YtgokjdfkpnkekaaGreat
