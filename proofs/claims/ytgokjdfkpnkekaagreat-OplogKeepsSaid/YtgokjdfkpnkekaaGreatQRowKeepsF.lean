/-
  What the row of oplogKeeps asks of the program as a whole, part by part.
-/
import Derived.Test.YtgokjdfkpnkekaaGreatRows
import Derived.JoinedOf
namespace Go.Proofs.YtgokjdfkpnkekaaGreat
open Go
theorem Yt{a b:Bool}(h1:a=true)(h2:b=true):(a && b)=true:=by rw[h1,h2];rfl
set_option maxHeartbeats 4000000 in
set_option maxRecDepth 100000 in
theorem QeR:joinedFacts Tryz.pinned.checked.prog 4 Tryz.f4 Rows.oplogKeepsSpec Rows.oplogKeepsRow=true:=by
 unfold joinedFacts
 refine(Yt (Yt (Yt (Yt (Yt (Yt (Yt (Yt (Yt (Yt (Yt (Yt (Yt (Yt (Yt (Yt (Yt (Yt (Yt (Yt (Yt (Yt (Yt (Yt (Yt (Yt (Yt (Yt (Yt (Yt (Yt ?_ ?_) ?_) ?_) ?_) ?_) ?_) ?_) ?_) ?_) ?_) ?_) ?_) ?_) ?_) ?_) ?_) ?_) ?_) ?_) ?_) ?_) ?_) ?_) ?_) ?_) ?_) ?_) ?_) ?_) ?_) ?_)
 all_goals (as_aux_lemma=>kernel_rfl)
end Go.Proofs.YtgokjdfkpnkekaaGreat
