/-
  What the package-level variables that the code reads hold: here none. No project text.
-/
import Derived.Orders
namespace Go.Proofs.YtbcginibldjnaaaGreat.AM
open Go
def Laid (_ : World) : Prop := True
end Go.Proofs.YtbcginibldjnaaaGreat.AM
