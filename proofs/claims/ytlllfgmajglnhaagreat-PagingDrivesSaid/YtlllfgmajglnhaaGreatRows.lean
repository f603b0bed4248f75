/-
  No cell of these rows narrows 'for every input' (looked for: loops, veiled, ifaces, maps, wideKeys, modest, calm, conditions, laid).
  DERIVED. THE GIVEN ROWS OF THIS SEAT. 7 by the template 'for every input the law returns true; each argument reads behind the call as it read before'; 0 by the template 'total and deterministic' (their statements: YtlllfgmajglnhaaGreatTotals.lean).
  GIVEN WITH THE SEED: the statements are not yours to turn. If you find one false, say at which input.
  Laid BY PROGRAM, IN A SANDBOX (cutbox-rows.mjs): the forced cells as the released guide's own fill.sh prints them over the translation 7f5d4f3117644763… (all of the seat's roots in one cut). By AI agents, Wed Nov 11 2026. No macro, syntax, notation, axiom, sorry.
-/
import Derived.Test.YtlllfgmajglnhaaGreatChecked
import GoSem.Claim
import GoSem.ClaimJoined
import GoSem.ClaimMapViews
import Derived.JoinedTies
import Derived.KernelRfl
namespace Go.Proofs.YtlllfgmajglnhaaGreat
/- THE CELL 'sum', in the pinned program and in every row, IS THE sha256 OF THE DUMP (.gsa) THAT YtlllfgmajglnhaaGreatProg.lean LOADS. Nothing in Lean hashes anything: it is a label: what it is worth is what the hold of that sum in a sandbox is worth. -/
noncomputable def Tryz.pinned : Pinned := { name := "ytlllfgmajglnhaagreat", sum := "7f5d4f3117644763c3bb97a5bee085668ce2cc1ecd9b8eb2d9a021d236035ef4", checked := Tryz.checked }
namespace Rows
def none {H : Type} : Left H := { results := [], args := [] }

/-- 'pagewatchlaw36.PagingMajority': WHATEVER THE INPUT: true; the input reads as it did. -/
def pagingMajoritySpec : ChangeSpec := { name := "pagingMajority", fn := fun _ => fun
  | [d] => { results := [.lit (.bool true)], args := [d] }
  | _ => none }
def pagingMajorityRow : OpenClaim := { program := "ytlllfgmajglnhaagreat", sum := "7f5d4f3117644763c3bb97a5bee085668ce2cc1ecd9b8eb2d9a021d236035ef4", func := "pagewatch/pagewatchlaw36.PagingMajority", spec := "pagingMajority", inPlace := ["slices.overlaps[pagewatch/api.Page]"], unfollowed := true, recurses := true, apart := false }
def PagingMajoritySaid : Prop := pagingMajorityRow.holds Tryz.pinned (OpenSpec.ofChange pagingMajoritySpec)

/-- ITS FALSE NEIGHBOUR: 'it returns false'. Refute it at one input. -/
def pagingMajorityWrong : ChangeSpec := { name := "pagingMajority", fn := fun _ => fun
  | [d] => { results := [.lit (.bool false)], args := [d] }
  | _ => none }
def PagingMajorityWrongFalsely : Prop := pagingMajorityRow.holds Tryz.pinned (OpenSpec.ofChange pagingMajorityWrong)

/-- 'pagewatchlaw36.PagingSurvives': WHATEVER THE INPUT: true; the input reads as it did. -/
def pagingSurvivesSpec : ChangeSpec := { name := "pagingSurvives", fn := fun _ => fun
  | [d1, d2] => { results := [.lit (.bool true)], args := [d1, d2] }
  | _ => none }
def pagingSurvivesRow : OpenClaim := { program := "ytlllfgmajglnhaagreat", sum := "7f5d4f3117644763c3bb97a5bee085668ce2cc1ecd9b8eb2d9a021d236035ef4", func := "pagewatch/pagewatchlaw36.PagingSurvives", spec := "pagingSurvives", inPlace := ["slices.overlaps[pagewatch/api.Page]"], unfollowed := true, recurses := true, apart := false }
def PagingSurvivesSaid : Prop := pagingSurvivesRow.holds Tryz.pinned (OpenSpec.ofChange pagingSurvivesSpec)

/-- ITS FALSE NEIGHBOUR: 'it returns false'. Refute it at one input. -/
def pagingSurvivesWrong : ChangeSpec := { name := "pagingSurvives", fn := fun _ => fun
  | [d1, d2] => { results := [.lit (.bool false)], args := [d1, d2] }
  | _ => none }
def PagingSurvivesWrongFalsely : Prop := pagingSurvivesRow.holds Tryz.pinned (OpenSpec.ofChange pagingSurvivesWrong)

/-- 'pagewatchlaw36.PagingKeeps': WHATEVER THE INPUT: true; the input reads as it did. -/
def pagingKeepsSpec : ChangeSpec := { name := "pagingKeeps", fn := fun _ => fun
  | [d] => { results := [.lit (.bool true)], args := [d] }
  | _ => none }
def pagingKeepsRow : OpenClaim := { program := "ytlllfgmajglnhaagreat", sum := "7f5d4f3117644763c3bb97a5bee085668ce2cc1ecd9b8eb2d9a021d236035ef4", func := "pagewatch/pagewatchlaw36.PagingKeeps", spec := "pagingKeeps", inPlace := ["slices.overlaps[pagewatch/api.Page]"], unfollowed := true, recurses := true, apart := false }
def PagingKeepsSaid : Prop := pagingKeepsRow.holds Tryz.pinned (OpenSpec.ofChange pagingKeepsSpec)

/-- ITS FALSE NEIGHBOUR: 'it returns false'. Refute it at one input. -/
def pagingKeepsWrong : ChangeSpec := { name := "pagingKeeps", fn := fun _ => fun
  | [d] => { results := [.lit (.bool false)], args := [d] }
  | _ => none }
def PagingKeepsWrongFalsely : Prop := pagingKeepsRow.holds Tryz.pinned (OpenSpec.ofChange pagingKeepsWrong)

/-- 'pagewatchlaw36.PagingViews': WHATEVER THE INPUT: true; the input reads as it did. -/
def pagingViewsSpec : ChangeSpec := { name := "pagingViews", fn := fun _ => fun
  | [d] => { results := [.lit (.bool true)], args := [d] }
  | _ => none }
def pagingViewsRow : OpenClaim := { program := "ytlllfgmajglnhaagreat", sum := "7f5d4f3117644763c3bb97a5bee085668ce2cc1ecd9b8eb2d9a021d236035ef4", func := "pagewatch/pagewatchlaw36.PagingViews", spec := "pagingViews", inPlace := ["slices.overlaps[pagewatch/api.Page]"], unfollowed := true, recurses := true, apart := false }
def PagingViewsSaid : Prop := pagingViewsRow.holds Tryz.pinned (OpenSpec.ofChange pagingViewsSpec)

/-- ITS FALSE NEIGHBOUR: 'it returns false'. Refute it at one input. -/
def pagingViewsWrong : ChangeSpec := { name := "pagingViews", fn := fun _ => fun
  | [d] => { results := [.lit (.bool false)], args := [d] }
  | _ => none }
def PagingViewsWrongFalsely : Prop := pagingViewsRow.holds Tryz.pinned (OpenSpec.ofChange pagingViewsWrong)

/-- 'pagewatchlaw36.PagingOnce': WHATEVER THE INPUT: true; the input reads as it did. -/
def pagingOnceSpec : ChangeSpec := { name := "pagingOnce", fn := fun _ => fun
  | [d] => { results := [.lit (.bool true)], args := [d] }
  | _ => none }
def pagingOnceRow : OpenClaim := { program := "ytlllfgmajglnhaagreat", sum := "7f5d4f3117644763c3bb97a5bee085668ce2cc1ecd9b8eb2d9a021d236035ef4", func := "pagewatch/pagewatchlaw36.PagingOnce", spec := "pagingOnce", inPlace := ["slices.overlaps[pagewatch/api.Page]"], unfollowed := true, recurses := true, apart := false }
def PagingOnceSaid : Prop := pagingOnceRow.holds Tryz.pinned (OpenSpec.ofChange pagingOnceSpec)

/-- ITS FALSE NEIGHBOUR: 'it returns false'. Refute it at one input. -/
def pagingOnceWrong : ChangeSpec := { name := "pagingOnce", fn := fun _ => fun
  | [d] => { results := [.lit (.bool false)], args := [d] }
  | _ => none }
def PagingOnceWrongFalsely : Prop := pagingOnceRow.holds Tryz.pinned (OpenSpec.ofChange pagingOnceWrong)

/-- 'pagewatchlaw36.PagingSteps': WHATEVER THE INPUT: true; the input reads as it did. -/
def pagingStepsSpec : ChangeSpec := { name := "pagingSteps", fn := fun _ => fun
  | [d1, d2, d3, d4, d5, d6] => { results := [.lit (.bool true)], args := [d1, d2, d3, d4, d5, d6] }
  | _ => none }
def pagingStepsRow : OpenClaim := { program := "ytlllfgmajglnhaagreat", sum := "7f5d4f3117644763c3bb97a5bee085668ce2cc1ecd9b8eb2d9a021d236035ef4", func := "pagewatch/pagewatchlaw36.PagingSteps", spec := "pagingSteps", inPlace := ["slices.overlaps[pagewatch/api.Page]"], unfollowed := true, recurses := true, apart := false }
def PagingStepsSaid : Prop := pagingStepsRow.holds Tryz.pinned (OpenSpec.ofChange pagingStepsSpec)

/-- ITS FALSE NEIGHBOUR: 'it returns false'. Refute it at one input. -/
def pagingStepsWrong : ChangeSpec := { name := "pagingSteps", fn := fun _ => fun
  | [d1, d2, d3, d4, d5, d6] => { results := [.lit (.bool false)], args := [d1, d2, d3, d4, d5, d6] }
  | _ => none }
def PagingStepsWrongFalsely : Prop := pagingStepsRow.holds Tryz.pinned (OpenSpec.ofChange pagingStepsWrong)

/-- 'pagewatchlaw36.PagingDrives': WHATEVER THE INPUT: true; the input reads as it did. -/
def pagingDrivesSpec : ChangeSpec := { name := "pagingDrives", fn := fun _ => fun
  | [d] => { results := [.lit (.bool true)], args := [d] }
  | _ => none }
def pagingDrivesRow : OpenClaim := { program := "ytlllfgmajglnhaagreat", sum := "7f5d4f3117644763c3bb97a5bee085668ce2cc1ecd9b8eb2d9a021d236035ef4", func := "pagewatch/pagewatchlaw36.PagingDrives", spec := "pagingDrives", inPlace := ["slices.overlaps[pagewatch/api.Page]"], unfollowed := true, recurses := true, apart := false }
def PagingDrivesSaid : Prop := pagingDrivesRow.holds Tryz.pinned (OpenSpec.ofChange pagingDrivesSpec)

/-- ITS FALSE NEIGHBOUR: 'it returns false'. Refute it at one input. -/
def pagingDrivesWrong : ChangeSpec := { name := "pagingDrives", fn := fun _ => fun
  | [d] => { results := [.lit (.bool false)], args := [d] }
  | _ => none }
def PagingDrivesWrongFalsely : Prop := pagingDrivesRow.holds Tryz.pinned (OpenSpec.ofChange pagingDrivesWrong)

/- THE SECOND FORM. 'bulk': how many values and letters a reading holds, each counted each time it is reached (what is shared counts as often as it is met; a slice's spare places count too). A statement '..UptoSaid' is the law's where the arguments, and the package variables that the reading takes, are together of bulk at most 1048576: NARROWER than '..Said'. Prove '..Said' where nothing that the law and all that it calls make is longer than what came in: it says more and counts as full. Else prove '..UptoSaid'. A law counts once. -/
mutual
def uptoBulk {H : Type} : DataW H → Nat
  | .lit (.string bytes) => bytes.length + 1
  | .lit _ => 1
  | .nil => 1
  | .ptr d => uptoBulk d + 1
  | .slice elems spare => uptoBulkAll elems + uptoBulkAll spare + 1
  | .agg parts => uptoBulkAll parts + 1
  | .iface _ d => uptoBulk d + 1
  | .map entries => uptoBulkEntries entries + 1
  | .held _ => 1
def uptoBulkAll {H : Type} : List (DataW H) → Nat
  | [] => 0
  | d :: r => uptoBulk d + uptoBulkAll r
def uptoBulkEntries {H : Type} : List (Lit × DataW H) → Nat
  | [] => 0
  | x :: r => uptoBulkEntry x + uptoBulkEntries r
def uptoBulkEntry {H : Type} : Lit × DataW H → Nat
  | (.string bytes, d) => bytes.length + uptoBulk d + 1
  | (_, d) => uptoBulk d + 1
 end
def uptoSmall : (H : Type) → List (DataW H) → Bool := fun _ ds => decide (uptoBulkAll ds ≤ 1048576)
def OpenSpec.upto (s : _root_.Go.ChangeSpec) : _root_.Go.OpenSpec := { _root_.Go.OpenSpec.ofChange s with cond := some uptoSmall }

/-- 'pagewatchlaw36.PagingMajority', WHERE WHAT IT READS IS OF BULK AT MOST 1048576: true; the input reads as it did. -/
def pagingMajorityUptoRow : OpenClaim := { program := "ytlllfgmajglnhaagreat", sum := "7f5d4f3117644763c3bb97a5bee085668ce2cc1ecd9b8eb2d9a021d236035ef4", func := "pagewatch/pagewatchlaw36.PagingMajority", spec := "pagingMajority", inPlace := ["slices.overlaps[pagewatch/api.Page]"], unfollowed := true, recurses := true, apart := false, narrowed := true }
def PagingMajorityUptoSaid : Prop := pagingMajorityUptoRow.holds Tryz.pinned (OpenSpec.upto pagingMajoritySpec)

/-- 'pagewatchlaw36.PagingSurvives', WHERE WHAT IT READS IS OF BULK AT MOST 1048576: true; the input reads as it did. -/
def pagingSurvivesUptoRow : OpenClaim := { program := "ytlllfgmajglnhaagreat", sum := "7f5d4f3117644763c3bb97a5bee085668ce2cc1ecd9b8eb2d9a021d236035ef4", func := "pagewatch/pagewatchlaw36.PagingSurvives", spec := "pagingSurvives", inPlace := ["slices.overlaps[pagewatch/api.Page]"], unfollowed := true, recurses := true, apart := false, narrowed := true }
def PagingSurvivesUptoSaid : Prop := pagingSurvivesUptoRow.holds Tryz.pinned (OpenSpec.upto pagingSurvivesSpec)

/-- 'pagewatchlaw36.PagingKeeps', WHERE WHAT IT READS IS OF BULK AT MOST 1048576: true; the input reads as it did. -/
def pagingKeepsUptoRow : OpenClaim := { program := "ytlllfgmajglnhaagreat", sum := "7f5d4f3117644763c3bb97a5bee085668ce2cc1ecd9b8eb2d9a021d236035ef4", func := "pagewatch/pagewatchlaw36.PagingKeeps", spec := "pagingKeeps", inPlace := ["slices.overlaps[pagewatch/api.Page]"], unfollowed := true, recurses := true, apart := false, narrowed := true }
def PagingKeepsUptoSaid : Prop := pagingKeepsUptoRow.holds Tryz.pinned (OpenSpec.upto pagingKeepsSpec)

/-- 'pagewatchlaw36.PagingViews', WHERE WHAT IT READS IS OF BULK AT MOST 1048576: true; the input reads as it did. -/
def pagingViewsUptoRow : OpenClaim := { program := "ytlllfgmajglnhaagreat", sum := "7f5d4f3117644763c3bb97a5bee085668ce2cc1ecd9b8eb2d9a021d236035ef4", func := "pagewatch/pagewatchlaw36.PagingViews", spec := "pagingViews", inPlace := ["slices.overlaps[pagewatch/api.Page]"], unfollowed := true, recurses := true, apart := false, narrowed := true }
def PagingViewsUptoSaid : Prop := pagingViewsUptoRow.holds Tryz.pinned (OpenSpec.upto pagingViewsSpec)

/-- 'pagewatchlaw36.PagingOnce', WHERE WHAT IT READS IS OF BULK AT MOST 1048576: true; the input reads as it did. -/
def pagingOnceUptoRow : OpenClaim := { program := "ytlllfgmajglnhaagreat", sum := "7f5d4f3117644763c3bb97a5bee085668ce2cc1ecd9b8eb2d9a021d236035ef4", func := "pagewatch/pagewatchlaw36.PagingOnce", spec := "pagingOnce", inPlace := ["slices.overlaps[pagewatch/api.Page]"], unfollowed := true, recurses := true, apart := false, narrowed := true }
def PagingOnceUptoSaid : Prop := pagingOnceUptoRow.holds Tryz.pinned (OpenSpec.upto pagingOnceSpec)

/-- 'pagewatchlaw36.PagingSteps', WHERE WHAT IT READS IS OF BULK AT MOST 1048576: true; the input reads as it did. -/
def pagingStepsUptoRow : OpenClaim := { program := "ytlllfgmajglnhaagreat", sum := "7f5d4f3117644763c3bb97a5bee085668ce2cc1ecd9b8eb2d9a021d236035ef4", func := "pagewatch/pagewatchlaw36.PagingSteps", spec := "pagingSteps", inPlace := ["slices.overlaps[pagewatch/api.Page]"], unfollowed := true, recurses := true, apart := false, narrowed := true }
def PagingStepsUptoSaid : Prop := pagingStepsUptoRow.holds Tryz.pinned (OpenSpec.upto pagingStepsSpec)

/-- 'pagewatchlaw36.PagingDrives', WHERE WHAT IT READS IS OF BULK AT MOST 1048576: true; the input reads as it did. -/
def pagingDrivesUptoRow : OpenClaim := { program := "ytlllfgmajglnhaagreat", sum := "7f5d4f3117644763c3bb97a5bee085668ce2cc1ecd9b8eb2d9a021d236035ef4", func := "pagewatch/pagewatchlaw36.PagingDrives", spec := "pagingDrives", inPlace := ["slices.overlaps[pagewatch/api.Page]"], unfollowed := true, recurses := true, apart := false, narrowed := true }
def PagingDrivesUptoSaid : Prop := pagingDrivesUptoRow.holds Tryz.pinned (OpenSpec.upto pagingDrivesSpec)

end Rows
end Go.Proofs.YtlllfgmajglnhaaGreat
