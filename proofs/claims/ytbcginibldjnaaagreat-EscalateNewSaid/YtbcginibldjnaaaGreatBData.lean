/-
  The structs of the program, as plain data; their cells; kinds of elements. Written by wip/gen/bdata.py. No project text.
-/
import Derived.Test.YtbcginibldjnaaaGreatAmQ
import Derived.Test.YtbcginibldjnaaaGreatAmM
set_option linter.unusedVariables false
namespace Go.Proofs.YtbcginibldjnaaaGreat.AM
open Go
namespace D
structure Arr3Int where
  a0 : Int
  a1 : Int
  a2 : Int
  deriving DecidableEq
instance : Inhabited Arr3Int := ⟨⟨default, default, default⟩⟩
abbrev Arr3Int.cells (x : Arr3Int) : List PV := [.v (.int .i64 x.a0), .v (.int .i64 x.a1), .v (.int .i64 x.a2)]
structure Team where
  Name : ByteArray
  Members : List Int
  deriving DecidableEq
instance : Inhabited Team := ⟨⟨default, default⟩⟩
abbrev Team.cells (x : Team) : List PV := [.v (.string x.Name), .sl false 1 (x.Members.map D.cInt)]
structure Target where
  Kind : Int
  Index : Int
  deriving DecidableEq
instance : Inhabited Target := ⟨⟨default, default⟩⟩
abbrev Target.cells (x : Target) : List PV := [.v (.int .i64 x.Kind), .v (.int .i64 x.Index)]
structure PolicyStep where
  Wait : Int
  Urgent : Bool
  Targets : List D.Target
  deriving DecidableEq
instance : Inhabited PolicyStep := ⟨⟨default, default, default⟩⟩
abbrev PolicyStep.cells (x : PolicyStep) : List PV := [.v (.int .i64 x.Wait), .v (.bool x.Urgent), .sl false 2 (x.Targets.map D.Target.cells)]
structure Policy where
  Name : ByteArray
  Steps : List D.PolicyStep
  Repeat : Int
  deriving DecidableEq
instance : Inhabited Policy := ⟨⟨default, default, default⟩⟩
abbrev Policy.cells (x : Policy) : List PV := [.v (.string x.Name), .sl false 3 (x.Steps.map D.PolicyStep.cells), .v (.int .i64 x.Repeat)]
structure Book where
  Teams : List D.Team
  Policies : List D.Policy
  deriving DecidableEq
instance : Inhabited Book := ⟨⟨default, default⟩⟩
abbrev Book.cells (x : Book) : List PV := [.sl false 2 (x.Teams.map D.Team.cells), .sl false 3 (x.Policies.map D.Policy.cells)]
structure Start where
  K : Int
  At : Int
  People : List Int
  deriving DecidableEq
instance : Inhabited Start := ⟨⟨default, default, default⟩⟩
abbrev Start.cells (x : Start) : List PV := [.v (.int .i64 x.K), .v (.int .i64 x.At), .sl false 1 (x.People.map D.cInt)]
structure Page where
  ID : Int
  Policy : Int
  Start : Int
  Next : Int
  Due : Int
  State : Int
  By : Int
  Until : Int
  Last : Int
  Snoozes : Int
  Hands : Int
  Starts : List D.Start
  Declined : List Int
  Seen : List Int
  deriving DecidableEq
instance : Inhabited Page := ⟨⟨default, default, default, default, default, default, default, default, default, default, default, default, default, default⟩⟩
abbrev Page.cells (x : Page) : List PV := [.v (.int .i64 x.ID), .v (.int .i64 x.Policy), .v (.int .i64 x.Start), .v (.int .i64 x.Next), .v (.int .i64 x.Due), .v (.int .i64 x.State), .v (.int .i64 x.By), .v (.int .i64 x.Until), .v (.int .i64 x.Last), .v (.int .i64 x.Snoozes), .v (.int .i64 x.Hands), .sl false 3 (x.Starts.map D.Start.cells), .sl false 1 (x.Declined.map D.cInt), .sl false 1 (x.Seen.map D.cInt)]
structure YearRule where
  From : Int
  To : Int
  Month : Int
  Week : Int
  Weekday : Int
  Second : Int
  Offset : Int
  deriving DecidableEq
instance : Inhabited YearRule := ⟨⟨default, default, default, default, default, default, default⟩⟩
abbrev YearRule.cells (x : YearRule) : List PV := [.v (.int .i64 x.From), .v (.int .i64 x.To), .v (.int .i64 x.Month), .v (.int .i64 x.Week), .v (.int .i64 x.Weekday), .v (.int .i64 x.Second), .v (.int .i64 x.Offset)]
structure Zone where
  Name : ByteArray
  Offset : Int
  Rules : List D.YearRule
  deriving DecidableEq
instance : Inhabited Zone := ⟨⟨default, default, default⟩⟩
abbrev Zone.cells (x : Zone) : List PV := [.v (.string x.Name), .v (.int .i64 x.Offset), .sl false 7 (x.Rules.map D.YearRule.cells)]
structure Window where
  From : Int
  To : Int
  deriving DecidableEq
instance : Inhabited Window := ⟨⟨default, default⟩⟩
abbrev Window.cells (x : Window) : List PV := [.v (.int .i64 x.From), .v (.int .i64 x.To)]
structure Person where
  Name : ByteArray
  Zone : Int
  Quiet : List D.Window
  MaxWeek : Int
  MinRest : Int
  Consent : Bool
  deriving DecidableEq
instance : Inhabited Person := ⟨⟨default, default, default, default, default, default⟩⟩
abbrev Person.cells (x : Person) : List PV := [.v (.string x.Name), .v (.int .i64 x.Zone), .sl false 2 (x.Quiet.map D.Window.cells), .v (.int .i64 x.MaxWeek), .v (.int .i64 x.MinRest), .v (.bool x.Consent)]
structure Calendar where
  Name : ByteArray
  Zone : Int
  Days : List Int
  deriving DecidableEq
instance : Inhabited Calendar := ⟨⟨default, default, default⟩⟩
abbrev Calendar.cells (x : Calendar) : List PV := [.v (.string x.Name), .v (.int .i64 x.Zone), .sl false 1 (x.Days.map D.cInt)]
structure Local where
  Day : Int
  Second : Int
  deriving DecidableEq
instance : Inhabited Local := ⟨⟨default, default⟩⟩
abbrev Local.cells (x : Local) : List PV := [.v (.int .i64 x.Day), .v (.int .i64 x.Second)]
structure Layer where
  Name : ByteArray
  Zone : Int
  Start : D.Local
  Unit : Int
  Every : Int
  Members : List Int
  Windows : List D.Window
  Calendar : Int
  Mode : Int
  deriving DecidableEq
instance : Inhabited Layer := ⟨⟨default, default, default, default, default, default, default, default, default⟩⟩
abbrev Layer.cells (x : Layer) : List PV := [.v (.string x.Name), .v (.int .i64 x.Zone), .v (.int .i64 x.Start.Day), .v (.int .i64 x.Start.Second), .v (.int .i64 x.Unit), .v (.int .i64 x.Every), .sl false 1 (x.Members.map D.cInt), .sl false 2 (x.Windows.map D.Window.cells), .v (.int .i64 x.Calendar), .v (.int .i64 x.Mode)]
structure Edit where
  Kind : Int
  A : Int
  B : Int
  From : Int
  To : Int
  deriving DecidableEq
instance : Inhabited Edit := ⟨⟨default, default, default, default, default⟩⟩
abbrev Edit.cells (x : Edit) : List PV := [.v (.int .i64 x.Kind), .v (.int .i64 x.A), .v (.int .i64 x.B), .v (.int .i64 x.From), .v (.int .i64 x.To)]
structure Schedule where
  Name : ByteArray
  Layers : List D.Layer
  Edits : List D.Edit
  deriving DecidableEq
instance : Inhabited Schedule := ⟨⟨default, default, default⟩⟩
abbrev Schedule.cells (x : Schedule) : List PV := [.v (.string x.Name), .sl false 10 (x.Layers.map D.Layer.cells), .sl false 5 (x.Edits.map D.Edit.cells)]
structure Config where
  Zones : List D.Zone
  People : List D.Person
  Calendars : List D.Calendar
  Schedules : List D.Schedule
  deriving DecidableEq
instance : Inhabited Config := ⟨⟨default, default, default, default⟩⟩
abbrev Config.cells (x : Config) : List PV := [.sl false 3 (x.Zones.map D.Zone.cells), .sl false 6 (x.People.map D.Person.cells), .sl false 3 (x.Calendars.map D.Calendar.cells), .sl false 3 (x.Schedules.map D.Schedule.cells)]
structure Answer where
  ID : Int
  Page : Int
  Person : Int
  Kind : Int
  Arg : Int
  At : Int
  deriving DecidableEq
instance : Inhabited Answer := ⟨⟨default, default, default, default, default, default⟩⟩
abbrev Answer.cells (x : Answer) : List PV := [.v (.int .i64 x.ID), .v (.int .i64 x.Page), .v (.int .i64 x.Person), .v (.int .i64 x.Kind), .v (.int .i64 x.Arg), .v (.int .i64 x.At)]
structure Dice where
  L : List Int
  At : Int
  deriving DecidableEq
instance : Inhabited Dice := ⟨⟨default, default⟩⟩
abbrev Dice.cells (x : Dice) : List PV := [.sl false 1 (x.L.map D.cInt), .v (.int .i64 x.At)]
structure Transition where
  At : Int
  Offset : Int
  deriving DecidableEq
instance : Inhabited Transition := ⟨⟨default, default⟩⟩
abbrev Transition.cells (x : Transition) : List PV := [.v (.int .i64 x.At), .v (.int .i64 x.Offset)]
structure Table where
  offset : Int
  list : List D.Transition
  deriving DecidableEq
instance : Inhabited Table := ⟨⟨default, default⟩⟩
abbrev Table.cells (x : Table) : List PV := [.v (.int .i64 x.offset), .sl false 2 (x.list.map D.Transition.cells)]
structure View where
  Config : D.Config
  tables : List D.Table
  deriving DecidableEq
instance : Inhabited View := ⟨⟨default, default⟩⟩
abbrev View.cells (x : View) : List PV := [.sl false 3 (x.Config.Zones.map D.Zone.cells), .sl false 6 (x.Config.People.map D.Person.cells), .sl false 3 (x.Config.Calendars.map D.Calendar.cells), .sl false 3 (x.Config.Schedules.map D.Schedule.cells), .sl false 2 (x.tables.map D.Table.cells)]
structure Date where
  Year : Int
  Month : Int
  Day : Int
  deriving DecidableEq
instance : Inhabited Date := ⟨⟨default, default, default⟩⟩
abbrev Date.cells (x : Date) : List PV := [.v (.int .i64 x.Year), .v (.int .i64 x.Month), .v (.int .i64 x.Day)]
structure occurrence where
  local_ : Int
  offset : Int
  deriving DecidableEq
instance : Inhabited occurrence := ⟨⟨default, default⟩⟩
abbrev occurrence.cells (x : occurrence) : List PV := [.v (.int .i64 x.local_), .v (.int .i64 x.offset)]
structure Piece where
  From : Int
  To : Int
  Offset : Int
  deriving DecidableEq
instance : Inhabited Piece := ⟨⟨default, default, default⟩⟩
abbrev Piece.cells (x : Piece) : List PV := [.v (.int .i64 x.From), .v (.int .i64 x.To), .v (.int .i64 x.Offset)]
end D
/-- Kinds of elements. -/
inductive TC where
  | int
  | str
  | bool
  | u8
  | Arr3Int
  | Team
  | Target
  | PolicyStep
  | Policy
  | Book
  | Start
  | Page
  | YearRule
  | Zone
  | Window
  | Person
  | Calendar
  | Local
  | Layer
  | Edit
  | Schedule
  | Config
  | Answer
  | Dice
  | Transition
  | Table
  | View
  | Date
  | occurrence
  | Piece
  deriving DecidableEq
abbrev TT : TC → Type
  | .int => Int
  | .str => ByteArray
  | .bool => Bool
  | .u8 => Int
  | .Arr3Int => D.Arr3Int
  | .Team => D.Team
  | .Target => D.Target
  | .PolicyStep => D.PolicyStep
  | .Policy => D.Policy
  | .Book => D.Book
  | .Start => D.Start
  | .Page => D.Page
  | .YearRule => D.YearRule
  | .Zone => D.Zone
  | .Window => D.Window
  | .Person => D.Person
  | .Calendar => D.Calendar
  | .Local => D.Local
  | .Layer => D.Layer
  | .Edit => D.Edit
  | .Schedule => D.Schedule
  | .Config => D.Config
  | .Answer => D.Answer
  | .Dice => D.Dice
  | .Transition => D.Transition
  | .Table => D.Table
  | .View => D.View
  | .Date => D.Date
  | .occurrence => D.occurrence
  | .Piece => D.Piece
instance ttDec : (t : TC) → DecidableEq (TT t)
  | .int => inferInstanceAs (DecidableEq Int)
  | .str => inferInstanceAs (DecidableEq ByteArray)
  | .bool => inferInstanceAs (DecidableEq Bool)
  | .u8 => inferInstanceAs (DecidableEq Int)
  | .Arr3Int => inferInstanceAs (DecidableEq D.Arr3Int)
  | .Team => inferInstanceAs (DecidableEq D.Team)
  | .Target => inferInstanceAs (DecidableEq D.Target)
  | .PolicyStep => inferInstanceAs (DecidableEq D.PolicyStep)
  | .Policy => inferInstanceAs (DecidableEq D.Policy)
  | .Book => inferInstanceAs (DecidableEq D.Book)
  | .Start => inferInstanceAs (DecidableEq D.Start)
  | .Page => inferInstanceAs (DecidableEq D.Page)
  | .YearRule => inferInstanceAs (DecidableEq D.YearRule)
  | .Zone => inferInstanceAs (DecidableEq D.Zone)
  | .Window => inferInstanceAs (DecidableEq D.Window)
  | .Person => inferInstanceAs (DecidableEq D.Person)
  | .Calendar => inferInstanceAs (DecidableEq D.Calendar)
  | .Local => inferInstanceAs (DecidableEq D.Local)
  | .Layer => inferInstanceAs (DecidableEq D.Layer)
  | .Edit => inferInstanceAs (DecidableEq D.Edit)
  | .Schedule => inferInstanceAs (DecidableEq D.Schedule)
  | .Config => inferInstanceAs (DecidableEq D.Config)
  | .Answer => inferInstanceAs (DecidableEq D.Answer)
  | .Dice => inferInstanceAs (DecidableEq D.Dice)
  | .Transition => inferInstanceAs (DecidableEq D.Transition)
  | .Table => inferInstanceAs (DecidableEq D.Table)
  | .View => inferInstanceAs (DecidableEq D.View)
  | .Date => inferInstanceAs (DecidableEq D.Date)
  | .occurrence => inferInstanceAs (DecidableEq D.occurrence)
  | .Piece => inferInstanceAs (DecidableEq D.Piece)
def tz : TC → Nat
  | .int => 1
  | .str => 1
  | .bool => 1
  | .u8 => 1
  | .Arr3Int => 3
  | .Team => 2
  | .Target => 2
  | .PolicyStep => 3
  | .Policy => 3
  | .Book => 2
  | .Start => 3
  | .Page => 14
  | .YearRule => 7
  | .Zone => 3
  | .Window => 2
  | .Person => 6
  | .Calendar => 3
  | .Local => 2
  | .Layer => 10
  | .Edit => 5
  | .Schedule => 3
  | .Config => 4
  | .Answer => 6
  | .Dice => 2
  | .Transition => 2
  | .Table => 2
  | .View => 5
  | .Date => 3
  | .occurrence => 2
  | .Piece => 3
def tcells : (t : TC) → TT t → List PV
  | .int => D.cInt
  | .str => D.cStr
  | .bool => D.cBool
  | .u8 => (D.cK .u8)
  | .Arr3Int => D.Arr3Int.cells
  | .Team => D.Team.cells
  | .Target => D.Target.cells
  | .PolicyStep => D.PolicyStep.cells
  | .Policy => D.Policy.cells
  | .Book => D.Book.cells
  | .Start => D.Start.cells
  | .Page => D.Page.cells
  | .YearRule => D.YearRule.cells
  | .Zone => D.Zone.cells
  | .Window => D.Window.cells
  | .Person => D.Person.cells
  | .Calendar => D.Calendar.cells
  | .Local => D.Local.cells
  | .Layer => D.Layer.cells
  | .Edit => D.Edit.cells
  | .Schedule => D.Schedule.cells
  | .Config => D.Config.cells
  | .Answer => D.Answer.cells
  | .Dice => D.Dice.cells
  | .Transition => D.Transition.cells
  | .Table => D.Table.cells
  | .View => D.View.cells
  | .Date => D.Date.cells
  | .occurrence => D.occurrence.cells
  | .Piece => D.Piece.cells
end Go.Proofs.YtbcginibldjnaaaGreat.AM
