/-
  What the package-level variables that the code reads hold: a table, two errors, a number. No project text.
-/
import Derived.Test.YtimfbibaoppfcaaGreatDoorProg
import Derived.Shelf.Strconv.Itoa3
namespace Go.Proofs.YtimfbibaoppfcaaGreatDoor.AM
open Go
structure Laid (G : World) : Prop where
  pow : Lib.TabIs Tryz.prog G "internal/strconv.uint64pow10" .u64 Lib.pow10Tab
  esyn : ∃ tp p, G.var? Tryz.prog "strconv.ErrSyntax" = some #[.iface tp p]
  eran : ∃ tp p, G.var? Tryz.prog "strconv.ErrRange" = some #[.iface tp p]
  mlen : ∃ m, G.var? Tryz.prog "internal/bytealg.MaxLen" = some #[.int .i64 m]
end Go.Proofs.YtimfbibaoppfcaaGreatDoor.AM
