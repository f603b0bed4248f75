/-
  The structs of the program, as plain data; their cells. Written by wip/gen/data.py. No project text.
-/
import Derived.Test.YteccnpkpjaknkaaAmN
set_option linter.unusedVariables false
namespace Go.Proofs.Yteccnpkpjaknkaa.AM
open Go
namespace D
structure Team where
  Name : ByteArray
  Members : List Int
instance : Inhabited Team := ⟨⟨default, default⟩⟩
abbrev Team.cells (x : Team) : List PV := [(pS x.Name), (.sl false 1 (x.Members.map D.cInt))]
structure Target where
  Kind : Int
  Index : Int
instance : Inhabited Target := ⟨⟨default, default⟩⟩
abbrev Target.cells (x : Target) : List PV := [(pI x.Kind), (pI x.Index)]
structure PolicyStep where
  Wait : Int
  Urgent : Bool
  Targets : List Target
instance : Inhabited PolicyStep := ⟨⟨default, default, default⟩⟩
abbrev PolicyStep.cells (x : PolicyStep) : List PV := [(pI x.Wait), (pB x.Urgent), (.sl false 2 (x.Targets.map D.Target.cells))]
structure Policy where
  Name : ByteArray
  Steps : List PolicyStep
  Repeat : Int
instance : Inhabited Policy := ⟨⟨default, default, default⟩⟩
abbrev Policy.cells (x : Policy) : List PV := [(pS x.Name), (.sl false 3 (x.Steps.map D.PolicyStep.cells)), (pI x.Repeat)]
structure Book where
  Teams : List Team
  Policies : List Policy
instance : Inhabited Book := ⟨⟨default, default⟩⟩
abbrev Book.cells (x : Book) : List PV := [(.sl false 2 (x.Teams.map D.Team.cells)), (.sl false 3 (x.Policies.map D.Policy.cells))]
structure Dice where
  L : List Int
  At : Int
instance : Inhabited Dice := ⟨⟨default, default⟩⟩
abbrev Dice.cells (x : Dice) : List PV := [(.sl false 1 (x.L.map D.cInt)), (pI x.At)]
end D
end Go.Proofs.Yteccnpkpjaknkaa.AM
