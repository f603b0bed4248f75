/-
  The structs of the program, as plain data; their cells. Written by wip/gen/data.py. No project text.
-/
import Derived.Test.YtimfbibaoppfcaaGreatDoorAmQ
set_option linter.unusedVariables false
namespace Go.Proofs.YtimfbibaoppfcaaGreatDoor.AM
open Go
namespace D
structure Team where
  Name : ByteArray
  Members : List Int
instance : Inhabited Team := ⟨⟨default, default⟩⟩
abbrev Team.cells (x : Team) : List PV := [(pS x.Name), (.sl false 1 (x.Members.map D.cInt))]
structure Target where
  Kind : Int
  Index : Int
instance : Inhabited Target := ⟨⟨default, default⟩⟩
abbrev Target.cells (x : Target) : List PV := [(pI x.Kind), (pI x.Index)]
structure PolicyStep where
  Wait : Int
  Urgent : Bool
  Targets : List Target
instance : Inhabited PolicyStep := ⟨⟨default, default, default⟩⟩
abbrev PolicyStep.cells (x : PolicyStep) : List PV := [(pI x.Wait), (pB x.Urgent), (.sl false 2 (x.Targets.map D.Target.cells))]
structure Policy where
  Name : ByteArray
  Steps : List PolicyStep
  Repeat : Int
instance : Inhabited Policy := ⟨⟨default, default, default⟩⟩
abbrev Policy.cells (x : Policy) : List PV := [(pS x.Name), (.sl false 3 (x.Steps.map D.PolicyStep.cells)), (pI x.Repeat)]
structure Book where
  Teams : List Team
  Policies : List Policy
instance : Inhabited Book := ⟨⟨default, default⟩⟩
structure YearRule where
  From : Int
  To : Int
  Month : Int
  Week : Int
  Weekday : Int
  Second : Int
  Offset : Int
instance : Inhabited YearRule := ⟨⟨default, default, default, default, default, default, default⟩⟩
abbrev YearRule.cells (x : YearRule) : List PV := [(pI x.From), (pI x.To), (pI x.Month), (pI x.Week), (pI x.Weekday), (pI x.Second), (pI x.Offset)]
structure Zone where
  Name : ByteArray
  Offset : Int
  Rules : List YearRule
instance : Inhabited Zone := ⟨⟨default, default, default⟩⟩
abbrev Zone.cells (x : Zone) : List PV := [(pS x.Name), (pI x.Offset), (.sl false 7 (x.Rules.map D.YearRule.cells))]
structure Window where
  From : Int
  To : Int
instance : Inhabited Window := ⟨⟨default, default⟩⟩
abbrev Window.cells (x : Window) : List PV := [(pI x.From), (pI x.To)]
structure Person where
  Name : ByteArray
  Zone : Int
  Quiet : List Window
  MaxWeek : Int
  MinRest : Int
  Consent : Bool
instance : Inhabited Person := ⟨⟨default, default, default, default, default, default⟩⟩
abbrev Person.cells (x : Person) : List PV := [(pS x.Name), (pI x.Zone), (.sl false 2 (x.Quiet.map D.Window.cells)), (pI x.MaxWeek), (pI x.MinRest), (pB x.Consent)]
structure Calendar where
  Name : ByteArray
  Zone : Int
  Days : List Int
instance : Inhabited Calendar := ⟨⟨default, default, default⟩⟩
abbrev Calendar.cells (x : Calendar) : List PV := [(pS x.Name), (pI x.Zone), (.sl false 1 (x.Days.map D.cInt))]
structure Local where
  Day : Int
  Second : Int
instance : Inhabited Local := ⟨⟨default, default⟩⟩
structure Layer where
  Name : ByteArray
  Zone : Int
  Start : Local
  Unit : Int
  Every : Int
  Members : List Int
  Windows : List Window
  Calendar : Int
  Mode : Int
instance : Inhabited Layer := ⟨⟨default, default, default, default, default, default, default, default, default⟩⟩
abbrev Layer.cells (x : Layer) : List PV := [(pS x.Name), (pI x.Zone), (pI x.Start.Day), (pI x.Start.Second), (pI x.Unit), (pI x.Every), (.sl false 1 (x.Members.map D.cInt)), (.sl false 2 (x.Windows.map D.Window.cells)), (pI x.Calendar), (pI x.Mode)]
structure Edit where
  Kind : Int
  A : Int
  B : Int
  From : Int
  To : Int
instance : Inhabited Edit := ⟨⟨default, default, default, default, default⟩⟩
abbrev Edit.cells (x : Edit) : List PV := [(pI x.Kind), (pI x.A), (pI x.B), (pI x.From), (pI x.To)]
structure Schedule where
  Name : ByteArray
  Layers : List Layer
  Edits : List Edit
instance : Inhabited Schedule := ⟨⟨default, default, default⟩⟩
abbrev Schedule.cells (x : Schedule) : List PV := [(pS x.Name), (.sl false 10 (x.Layers.map D.Layer.cells)), (.sl false 5 (x.Edits.map D.Edit.cells))]
structure Config where
  Zones : List Zone
  People : List Person
  Calendars : List Calendar
  Schedules : List Schedule
instance : Inhabited Config := ⟨⟨default, default, default, default⟩⟩
structure Dice where
  L : List Int
  At : Int
instance : Inhabited Dice := ⟨⟨default, default⟩⟩
structure Date where
  Year : Int
  Month : Int
  Day : Int
instance : Inhabited Date := ⟨⟨default, default, default⟩⟩
structure Transition where
  At : Int
  Offset : Int
instance : Inhabited Transition := ⟨⟨default, default⟩⟩
structure Table where
  offset : Int
  list : List Transition
instance : Inhabited Table := ⟨⟨default, default⟩⟩
structure View where
  Config : Config
  tables : List Table
instance : Inhabited View := ⟨⟨default, default⟩⟩
structure occurrence where
  local_ : Int
  offset : Int
instance : Inhabited occurrence := ⟨⟨default, default⟩⟩
structure Occurrence where
  At : Int
  Offset : Int
instance : Inhabited Occurrence := ⟨⟨default, default⟩⟩
structure Piece where
  From : Int
  To : Int
  Offset : Int
instance : Inhabited Piece := ⟨⟨default, default, default⟩⟩
end D
end Go.Proofs.YtimfbibaoppfcaaGreatDoor.AM
