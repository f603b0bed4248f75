/-
  Typed cells, and typed data read off cells. Written by wip/gen/bdata.py. No project text.
-/
import Derived.Test.YtbcginibldjnaaaGreatBA
set_option linter.unusedVariables false
namespace Go.Proofs.YtbcginibldjnaaaGreat.AM
open Go
def tb : (t : TC) → TT t → List BV
  | .int, x => [.n .i64 x]
  | .str, x => [.s x]
  | .bool, x => [.b x]
  | .u8, x => [.n .u8 x]
  | .Arr3Int, x => [.n .i64 x.a0, .n .i64 x.a1, .n .i64 x.a2]
  | .Team, x => [.s x.Name, .ts false .int x.Members]
  | .Target, x => [.n .i64 x.Kind, .n .i64 x.Index]
  | .PolicyStep, x => [.n .i64 x.Wait, .b x.Urgent, .ts false .Target x.Targets]
  | .Policy, x => [.s x.Name, .ts false .PolicyStep x.Steps, .n .i64 x.Repeat]
  | .Book, x => [.ts false .Team x.Teams, .ts false .Policy x.Policies]
  | .Start, x => [.n .i64 x.K, .n .i64 x.At, .ts false .int x.People]
  | .Page, x => [.n .i64 x.ID, .n .i64 x.Policy, .n .i64 x.Start, .n .i64 x.Next, .n .i64 x.Due, .n .i64 x.State, .n .i64 x.By, .n .i64 x.Until, .n .i64 x.Last, .n .i64 x.Snoozes, .n .i64 x.Hands, .ts false .Start x.Starts, .ts false .int x.Declined, .ts false .int x.Seen]
  | .YearRule, x => [.n .i64 x.From, .n .i64 x.To, .n .i64 x.Month, .n .i64 x.Week, .n .i64 x.Weekday, .n .i64 x.Second, .n .i64 x.Offset]
  | .Zone, x => [.s x.Name, .n .i64 x.Offset, .ts false .YearRule x.Rules]
  | .Window, x => [.n .i64 x.From, .n .i64 x.To]
  | .Person, x => [.s x.Name, .n .i64 x.Zone, .ts false .Window x.Quiet, .n .i64 x.MaxWeek, .n .i64 x.MinRest, .b x.Consent]
  | .Calendar, x => [.s x.Name, .n .i64 x.Zone, .ts false .int x.Days]
  | .Local, x => [.n .i64 x.Day, .n .i64 x.Second]
  | .Layer, x => [.s x.Name, .n .i64 x.Zone, .n .i64 x.Start.Day, .n .i64 x.Start.Second, .n .i64 x.Unit, .n .i64 x.Every, .ts false .int x.Members, .ts false .Window x.Windows, .n .i64 x.Calendar, .n .i64 x.Mode]
  | .Edit, x => [.n .i64 x.Kind, .n .i64 x.A, .n .i64 x.B, .n .i64 x.From, .n .i64 x.To]
  | .Schedule, x => [.s x.Name, .ts false .Layer x.Layers, .ts false .Edit x.Edits]
  | .Config, x => [.ts false .Zone x.Zones, .ts false .Person x.People, .ts false .Calendar x.Calendars, .ts false .Schedule x.Schedules]
  | .Answer, x => [.n .i64 x.ID, .n .i64 x.Page, .n .i64 x.Person, .n .i64 x.Kind, .n .i64 x.Arg, .n .i64 x.At]
  | .Dice, x => [.ts false .int x.L, .n .i64 x.At]
  | .Transition, x => [.n .i64 x.At, .n .i64 x.Offset]
  | .Table, x => [.n .i64 x.offset, .ts false .Transition x.list]
  | .View, x => [.ts false .Zone x.Config.Zones, .ts false .Person x.Config.People, .ts false .Calendar x.Config.Calendars, .ts false .Schedule x.Config.Schedules, .ts false .Table x.tables]
  | .Date, x => [.n .i64 x.Year, .n .i64 x.Month, .n .i64 x.Day]
  | .occurrence, x => [.n .i64 x.local_, .n .i64 x.offset]
  | .Piece, x => [.n .i64 x.From, .n .i64 x.To, .n .i64 x.Offset]
theorem tb_isP : ∀ (t : TC) (x : TT t), (tb t x).all BV.isP = true
  | .int, _ => rfl
  | .str, _ => rfl
  | .bool, _ => rfl
  | .u8, _ => rfl
  | .Arr3Int, _ => rfl
  | .Team, _ => rfl
  | .Target, _ => rfl
  | .PolicyStep, _ => rfl
  | .Policy, _ => rfl
  | .Book, _ => rfl
  | .Start, _ => rfl
  | .Page, _ => rfl
  | .YearRule, _ => rfl
  | .Zone, _ => rfl
  | .Window, _ => rfl
  | .Person, _ => rfl
  | .Calendar, _ => rfl
  | .Local, _ => rfl
  | .Layer, _ => rfl
  | .Edit, _ => rfl
  | .Schedule, _ => rfl
  | .Config, _ => rfl
  | .Answer, _ => rfl
  | .Dice, _ => rfl
  | .Transition, _ => rfl
  | .Table, _ => rfl
  | .View, _ => rfl
  | .Date, _ => rfl
  | .occurrence, _ => rfl
  | .Piece, _ => rfl
theorem tb_pv : ∀ (t : TC) (x : TT t), pvL (tb t x) = tcells t x
  | .int, _ => rfl
  | .str, _ => rfl
  | .bool, _ => rfl
  | .u8, _ => rfl
  | .Arr3Int, _ => rfl
  | .Team, _ => rfl
  | .Target, _ => rfl
  | .PolicyStep, _ => rfl
  | .Policy, _ => rfl
  | .Book, _ => rfl
  | .Start, _ => rfl
  | .Page, _ => rfl
  | .YearRule, _ => rfl
  | .Zone, _ => rfl
  | .Window, _ => rfl
  | .Person, _ => rfl
  | .Calendar, _ => rfl
  | .Local, _ => rfl
  | .Layer, _ => rfl
  | .Edit, _ => rfl
  | .Schedule, _ => rfl
  | .Config, _ => rfl
  | .Answer, _ => rfl
  | .Dice, _ => rfl
  | .Transition, _ => rfl
  | .Table, _ => rfl
  | .View, _ => rfl
  | .Date, _ => rfl
  | .occurrence, _ => rfl
  | .Piece, _ => rfl
section
variable {R : Type} {r : R}
def tpop : (t : TC) → List BV → (TT t → List BV → Option R) → Option R
  | .int, c, K => popN .i64 c K
  | .str, c, K => popS c K
  | .bool, c, K => popB c K
  | .u8, c, K => popN .u8 c K
  | .Arr3Int, c, K => popN .i64 c fun a0 c => popN .i64 c fun a1 c => popN .i64 c fun a2 c => K ⟨a0, a1, a2⟩ c
  | .Team, c, K => popS c fun a0 c => popT .int c fun a1 c => K ⟨a0, a1⟩ c
  | .Target, c, K => popN .i64 c fun a0 c => popN .i64 c fun a1 c => K ⟨a0, a1⟩ c
  | .PolicyStep, c, K => popN .i64 c fun a0 c => popB c fun a1 c => popT .Target c fun a2 c => K ⟨a0, a1, a2⟩ c
  | .Policy, c, K => popS c fun a0 c => popT .PolicyStep c fun a1 c => popN .i64 c fun a2 c => K ⟨a0, a1, a2⟩ c
  | .Book, c, K => popT .Team c fun a0 c => popT .Policy c fun a1 c => K ⟨a0, a1⟩ c
  | .Start, c, K => popN .i64 c fun a0 c => popN .i64 c fun a1 c => popT .int c fun a2 c => K ⟨a0, a1, a2⟩ c
  | .Page, c, K => popN .i64 c fun a0 c => popN .i64 c fun a1 c => popN .i64 c fun a2 c => popN .i64 c fun a3 c => popN .i64 c fun a4 c => popN .i64 c fun a5 c => popN .i64 c fun a6 c => popN .i64 c fun a7 c => popN .i64 c fun a8 c => popN .i64 c fun a9 c => popN .i64 c fun a10 c => popT .Start c fun a11 c => popT .int c fun a12 c => popT .int c fun a13 c => K ⟨a0, a1, a2, a3, a4, a5, a6, a7, a8, a9, a10, a11, a12, a13⟩ c
  | .YearRule, c, K => popN .i64 c fun a0 c => popN .i64 c fun a1 c => popN .i64 c fun a2 c => popN .i64 c fun a3 c => popN .i64 c fun a4 c => popN .i64 c fun a5 c => popN .i64 c fun a6 c => K ⟨a0, a1, a2, a3, a4, a5, a6⟩ c
  | .Zone, c, K => popS c fun a0 c => popN .i64 c fun a1 c => popT .YearRule c fun a2 c => K ⟨a0, a1, a2⟩ c
  | .Window, c, K => popN .i64 c fun a0 c => popN .i64 c fun a1 c => K ⟨a0, a1⟩ c
  | .Person, c, K => popS c fun a0 c => popN .i64 c fun a1 c => popT .Window c fun a2 c => popN .i64 c fun a3 c => popN .i64 c fun a4 c => popB c fun a5 c => K ⟨a0, a1, a2, a3, a4, a5⟩ c
  | .Calendar, c, K => popS c fun a0 c => popN .i64 c fun a1 c => popT .int c fun a2 c => K ⟨a0, a1, a2⟩ c
  | .Local, c, K => popN .i64 c fun a0 c => popN .i64 c fun a1 c => K ⟨a0, a1⟩ c
  | .Layer, c, K => popS c fun a0 c => popN .i64 c fun a1 c => popN .i64 c fun a2 c => popN .i64 c fun a3 c => popN .i64 c fun a4 c => popN .i64 c fun a5 c => popT .int c fun a6 c => popT .Window c fun a7 c => popN .i64 c fun a8 c => popN .i64 c fun a9 c => K ⟨a0, a1, ⟨a2, a3⟩, a4, a5, a6, a7, a8, a9⟩ c
  | .Edit, c, K => popN .i64 c fun a0 c => popN .i64 c fun a1 c => popN .i64 c fun a2 c => popN .i64 c fun a3 c => popN .i64 c fun a4 c => K ⟨a0, a1, a2, a3, a4⟩ c
  | .Schedule, c, K => popS c fun a0 c => popT .Layer c fun a1 c => popT .Edit c fun a2 c => K ⟨a0, a1, a2⟩ c
  | .Config, c, K => popT .Zone c fun a0 c => popT .Person c fun a1 c => popT .Calendar c fun a2 c => popT .Schedule c fun a3 c => K ⟨a0, a1, a2, a3⟩ c
  | .Answer, c, K => popN .i64 c fun a0 c => popN .i64 c fun a1 c => popN .i64 c fun a2 c => popN .i64 c fun a3 c => popN .i64 c fun a4 c => popN .i64 c fun a5 c => K ⟨a0, a1, a2, a3, a4, a5⟩ c
  | .Dice, c, K => popT .int c fun a0 c => popN .i64 c fun a1 c => K ⟨a0, a1⟩ c
  | .Transition, c, K => popN .i64 c fun a0 c => popN .i64 c fun a1 c => K ⟨a0, a1⟩ c
  | .Table, c, K => popN .i64 c fun a0 c => popT .Transition c fun a1 c => K ⟨a0, a1⟩ c
  | .View, c, K => popT .Zone c fun a0 c => popT .Person c fun a1 c => popT .Calendar c fun a2 c => popT .Schedule c fun a3 c => popT .Table c fun a4 c => K ⟨⟨a0, a1, a2, a3⟩, a4⟩ c
  | .Date, c, K => popN .i64 c fun a0 c => popN .i64 c fun a1 c => popN .i64 c fun a2 c => K ⟨a0, a1, a2⟩ c
  | .occurrence, c, K => popN .i64 c fun a0 c => popN .i64 c fun a1 c => K ⟨a0, a1⟩ c
  | .Piece, c, K => popN .i64 c fun a0 c => popN .i64 c fun a1 c => popN .i64 c fun a2 c => K ⟨a0, a1, a2⟩ c
theorem tpop_some : ∀ (t : TC) {cs : List BV} {K : TT t → List BV → Option R}, tpop t cs K = some r → ∃ x l, Le cs (tb t x ++ l) ∧ K x l = some r
  | .int, cs, K, h => by
    obtain ⟨a, _, rfl, h⟩ := popN_some h
    exact ⟨_, _, .refl _, h⟩
  | .str, cs, K, h => by
    obtain ⟨a, _, rfl, h⟩ := popS_some h
    exact ⟨_, _, .refl _, h⟩
  | .bool, cs, K, h => by
    obtain ⟨a, _, rfl, h⟩ := popB_some h
    exact ⟨_, _, .refl _, h⟩
  | .u8, cs, K, h => by
    obtain ⟨a, _, rfl, h⟩ := popN_some h
    exact ⟨_, _, .refl _, h⟩
  | .Arr3Int, cs, K, h => by
    obtain ⟨a0, _, rfl, h0⟩ := popN_some h
    obtain ⟨a1, _, rfl, h1⟩ := popN_some h0
    obtain ⟨a2, _, rfl, h2⟩ := popN_some h1
    exact ⟨⟨a0, a1, a2⟩, _, .cons' (.cons' (.cons' (.refl _))), h2⟩
  | .Team, cs, K, h => by
    obtain ⟨a0, _, rfl, h0⟩ := popS_some h
    obtain ⟨a1, _, _, rfl, ha1, h1⟩ := popT_some h0
    exact ⟨⟨a0, a1⟩, _, .cons' (.cons ha1 (.refl _)), h1⟩
  | .Target, cs, K, h => by
    obtain ⟨a0, _, rfl, h0⟩ := popN_some h
    obtain ⟨a1, _, rfl, h1⟩ := popN_some h0
    exact ⟨⟨a0, a1⟩, _, .cons' (.cons' (.refl _)), h1⟩
  | .PolicyStep, cs, K, h => by
    obtain ⟨a0, _, rfl, h0⟩ := popN_some h
    obtain ⟨a1, _, rfl, h1⟩ := popB_some h0
    obtain ⟨a2, _, _, rfl, ha2, h2⟩ := popT_some h1
    exact ⟨⟨a0, a1, a2⟩, _, .cons' (.cons' (.cons ha2 (.refl _))), h2⟩
  | .Policy, cs, K, h => by
    obtain ⟨a0, _, rfl, h0⟩ := popS_some h
    obtain ⟨a1, _, _, rfl, ha1, h1⟩ := popT_some h0
    obtain ⟨a2, _, rfl, h2⟩ := popN_some h1
    exact ⟨⟨a0, a1, a2⟩, _, .cons' (.cons ha1 (.cons' (.refl _))), h2⟩
  | .Book, cs, K, h => by
    obtain ⟨a0, _, _, rfl, ha0, h0⟩ := popT_some h
    obtain ⟨a1, _, _, rfl, ha1, h1⟩ := popT_some h0
    exact ⟨⟨a0, a1⟩, _, .cons ha0 (.cons ha1 (.refl _)), h1⟩
  | .Start, cs, K, h => by
    obtain ⟨a0, _, rfl, h0⟩ := popN_some h
    obtain ⟨a1, _, rfl, h1⟩ := popN_some h0
    obtain ⟨a2, _, _, rfl, ha2, h2⟩ := popT_some h1
    exact ⟨⟨a0, a1, a2⟩, _, .cons' (.cons' (.cons ha2 (.refl _))), h2⟩
  | .Page, cs, K, h => by
    obtain ⟨a0, _, rfl, h0⟩ := popN_some h
    obtain ⟨a1, _, rfl, h1⟩ := popN_some h0
    obtain ⟨a2, _, rfl, h2⟩ := popN_some h1
    obtain ⟨a3, _, rfl, h3⟩ := popN_some h2
    obtain ⟨a4, _, rfl, h4⟩ := popN_some h3
    obtain ⟨a5, _, rfl, h5⟩ := popN_some h4
    obtain ⟨a6, _, rfl, h6⟩ := popN_some h5
    obtain ⟨a7, _, rfl, h7⟩ := popN_some h6
    obtain ⟨a8, _, rfl, h8⟩ := popN_some h7
    obtain ⟨a9, _, rfl, h9⟩ := popN_some h8
    obtain ⟨a10, _, rfl, h10⟩ := popN_some h9
    obtain ⟨a11, _, _, rfl, ha11, h11⟩ := popT_some h10
    obtain ⟨a12, _, _, rfl, ha12, h12⟩ := popT_some h11
    obtain ⟨a13, _, _, rfl, ha13, h13⟩ := popT_some h12
    exact ⟨⟨a0, a1, a2, a3, a4, a5, a6, a7, a8, a9, a10, a11, a12, a13⟩, _, .cons' (.cons' (.cons' (.cons' (.cons' (.cons' (.cons' (.cons' (.cons' (.cons' (.cons' (.cons ha11 (.cons ha12 (.cons ha13 (.refl _)))))))))))))), h13⟩
  | .YearRule, cs, K, h => by
    obtain ⟨a0, _, rfl, h0⟩ := popN_some h
    obtain ⟨a1, _, rfl, h1⟩ := popN_some h0
    obtain ⟨a2, _, rfl, h2⟩ := popN_some h1
    obtain ⟨a3, _, rfl, h3⟩ := popN_some h2
    obtain ⟨a4, _, rfl, h4⟩ := popN_some h3
    obtain ⟨a5, _, rfl, h5⟩ := popN_some h4
    obtain ⟨a6, _, rfl, h6⟩ := popN_some h5
    exact ⟨⟨a0, a1, a2, a3, a4, a5, a6⟩, _, .cons' (.cons' (.cons' (.cons' (.cons' (.cons' (.cons' (.refl _))))))), h6⟩
  | .Zone, cs, K, h => by
    obtain ⟨a0, _, rfl, h0⟩ := popS_some h
    obtain ⟨a1, _, rfl, h1⟩ := popN_some h0
    obtain ⟨a2, _, _, rfl, ha2, h2⟩ := popT_some h1
    exact ⟨⟨a0, a1, a2⟩, _, .cons' (.cons' (.cons ha2 (.refl _))), h2⟩
  | .Window, cs, K, h => by
    obtain ⟨a0, _, rfl, h0⟩ := popN_some h
    obtain ⟨a1, _, rfl, h1⟩ := popN_some h0
    exact ⟨⟨a0, a1⟩, _, .cons' (.cons' (.refl _)), h1⟩
  | .Person, cs, K, h => by
    obtain ⟨a0, _, rfl, h0⟩ := popS_some h
    obtain ⟨a1, _, rfl, h1⟩ := popN_some h0
    obtain ⟨a2, _, _, rfl, ha2, h2⟩ := popT_some h1
    obtain ⟨a3, _, rfl, h3⟩ := popN_some h2
    obtain ⟨a4, _, rfl, h4⟩ := popN_some h3
    obtain ⟨a5, _, rfl, h5⟩ := popB_some h4
    exact ⟨⟨a0, a1, a2, a3, a4, a5⟩, _, .cons' (.cons' (.cons ha2 (.cons' (.cons' (.cons' (.refl _)))))), h5⟩
  | .Calendar, cs, K, h => by
    obtain ⟨a0, _, rfl, h0⟩ := popS_some h
    obtain ⟨a1, _, rfl, h1⟩ := popN_some h0
    obtain ⟨a2, _, _, rfl, ha2, h2⟩ := popT_some h1
    exact ⟨⟨a0, a1, a2⟩, _, .cons' (.cons' (.cons ha2 (.refl _))), h2⟩
  | .Local, cs, K, h => by
    obtain ⟨a0, _, rfl, h0⟩ := popN_some h
    obtain ⟨a1, _, rfl, h1⟩ := popN_some h0
    exact ⟨⟨a0, a1⟩, _, .cons' (.cons' (.refl _)), h1⟩
  | .Layer, cs, K, h => by
    obtain ⟨a0, _, rfl, h0⟩ := popS_some h
    obtain ⟨a1, _, rfl, h1⟩ := popN_some h0
    obtain ⟨a2, _, rfl, h2⟩ := popN_some h1
    obtain ⟨a3, _, rfl, h3⟩ := popN_some h2
    obtain ⟨a4, _, rfl, h4⟩ := popN_some h3
    obtain ⟨a5, _, rfl, h5⟩ := popN_some h4
    obtain ⟨a6, _, _, rfl, ha6, h6⟩ := popT_some h5
    obtain ⟨a7, _, _, rfl, ha7, h7⟩ := popT_some h6
    obtain ⟨a8, _, rfl, h8⟩ := popN_some h7
    obtain ⟨a9, _, rfl, h9⟩ := popN_some h8
    exact ⟨⟨a0, a1, ⟨a2, a3⟩, a4, a5, a6, a7, a8, a9⟩, _, .cons' (.cons' (.cons' (.cons' (.cons' (.cons' (.cons ha6 (.cons ha7 (.cons' (.cons' (.refl _)))))))))), h9⟩
  | .Edit, cs, K, h => by
    obtain ⟨a0, _, rfl, h0⟩ := popN_some h
    obtain ⟨a1, _, rfl, h1⟩ := popN_some h0
    obtain ⟨a2, _, rfl, h2⟩ := popN_some h1
    obtain ⟨a3, _, rfl, h3⟩ := popN_some h2
    obtain ⟨a4, _, rfl, h4⟩ := popN_some h3
    exact ⟨⟨a0, a1, a2, a3, a4⟩, _, .cons' (.cons' (.cons' (.cons' (.cons' (.refl _))))), h4⟩
  | .Schedule, cs, K, h => by
    obtain ⟨a0, _, rfl, h0⟩ := popS_some h
    obtain ⟨a1, _, _, rfl, ha1, h1⟩ := popT_some h0
    obtain ⟨a2, _, _, rfl, ha2, h2⟩ := popT_some h1
    exact ⟨⟨a0, a1, a2⟩, _, .cons' (.cons ha1 (.cons ha2 (.refl _))), h2⟩
  | .Config, cs, K, h => by
    obtain ⟨a0, _, _, rfl, ha0, h0⟩ := popT_some h
    obtain ⟨a1, _, _, rfl, ha1, h1⟩ := popT_some h0
    obtain ⟨a2, _, _, rfl, ha2, h2⟩ := popT_some h1
    obtain ⟨a3, _, _, rfl, ha3, h3⟩ := popT_some h2
    exact ⟨⟨a0, a1, a2, a3⟩, _, .cons ha0 (.cons ha1 (.cons ha2 (.cons ha3 (.refl _)))), h3⟩
  | .Answer, cs, K, h => by
    obtain ⟨a0, _, rfl, h0⟩ := popN_some h
    obtain ⟨a1, _, rfl, h1⟩ := popN_some h0
    obtain ⟨a2, _, rfl, h2⟩ := popN_some h1
    obtain ⟨a3, _, rfl, h3⟩ := popN_some h2
    obtain ⟨a4, _, rfl, h4⟩ := popN_some h3
    obtain ⟨a5, _, rfl, h5⟩ := popN_some h4
    exact ⟨⟨a0, a1, a2, a3, a4, a5⟩, _, .cons' (.cons' (.cons' (.cons' (.cons' (.cons' (.refl _)))))), h5⟩
  | .Dice, cs, K, h => by
    obtain ⟨a0, _, _, rfl, ha0, h0⟩ := popT_some h
    obtain ⟨a1, _, rfl, h1⟩ := popN_some h0
    exact ⟨⟨a0, a1⟩, _, .cons ha0 (.cons' (.refl _)), h1⟩
  | .Transition, cs, K, h => by
    obtain ⟨a0, _, rfl, h0⟩ := popN_some h
    obtain ⟨a1, _, rfl, h1⟩ := popN_some h0
    exact ⟨⟨a0, a1⟩, _, .cons' (.cons' (.refl _)), h1⟩
  | .Table, cs, K, h => by
    obtain ⟨a0, _, rfl, h0⟩ := popN_some h
    obtain ⟨a1, _, _, rfl, ha1, h1⟩ := popT_some h0
    exact ⟨⟨a0, a1⟩, _, .cons' (.cons ha1 (.refl _)), h1⟩
  | .View, cs, K, h => by
    obtain ⟨a0, _, _, rfl, ha0, h0⟩ := popT_some h
    obtain ⟨a1, _, _, rfl, ha1, h1⟩ := popT_some h0
    obtain ⟨a2, _, _, rfl, ha2, h2⟩ := popT_some h1
    obtain ⟨a3, _, _, rfl, ha3, h3⟩ := popT_some h2
    obtain ⟨a4, _, _, rfl, ha4, h4⟩ := popT_some h3
    exact ⟨⟨⟨a0, a1, a2, a3⟩, a4⟩, _, .cons ha0 (.cons ha1 (.cons ha2 (.cons ha3 (.cons ha4 (.refl _))))), h4⟩
  | .Date, cs, K, h => by
    obtain ⟨a0, _, rfl, h0⟩ := popN_some h
    obtain ⟨a1, _, rfl, h1⟩ := popN_some h0
    obtain ⟨a2, _, rfl, h2⟩ := popN_some h1
    exact ⟨⟨a0, a1, a2⟩, _, .cons' (.cons' (.cons' (.refl _))), h2⟩
  | .occurrence, cs, K, h => by
    obtain ⟨a0, _, rfl, h0⟩ := popN_some h
    obtain ⟨a1, _, rfl, h1⟩ := popN_some h0
    exact ⟨⟨a0, a1⟩, _, .cons' (.cons' (.refl _)), h1⟩
  | .Piece, cs, K, h => by
    obtain ⟨a0, _, rfl, h0⟩ := popN_some h
    obtain ⟨a1, _, rfl, h1⟩ := popN_some h0
    obtain ⟨a2, _, rfl, h2⟩ := popN_some h1
    exact ⟨⟨a0, a1, a2⟩, _, .cons' (.cons' (.cons' (.refl _))), h2⟩
end
end Go.Proofs.YtbcginibldjnaaaGreat.AM
