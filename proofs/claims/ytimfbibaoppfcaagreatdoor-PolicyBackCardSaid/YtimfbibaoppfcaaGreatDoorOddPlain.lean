/-
  A book with one thing changed (OddBook), in plain Lean; what the walk of it uses.
-/
import Derived.Test.YtimfbibaoppfcaaGreatDoorGrowLaw
import Derived.Test.YtimfbibaoppfcaaGreatDoorAmQ
set_option linter.unusedSimpArgs false
set_option linter.unusedVariables false
namespace Go.Proofs.YtimfbibaoppfcaaGreatDoor
open Go AM
theorem take_snoc {α : Type} [Inhabited α] {l : List α} {i : Nat} (h : i < l.length) : l.take i ++ [nth l i] = l.take (i + 1) := by
  rw [List.take_add_one, nth_eq h]; rfl
theorem take_map_snoc {α : Type} [Inhabited α] {l : List α} {f : α → List PV} {i : Nat} (h : i < l.length) : (l.take i).map f ++ [f (nth l i)] = (l.take (i + 1)).map f := by
  rw [← take_snoc h, List.map_append]; rfl
section
variable {L : List Int} {i : Nat} {b : D.Book} {k j c : Nat}
end
end Go.Proofs.YtimfbibaoppfcaaGreatDoor
