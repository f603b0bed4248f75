/-
  No cell of these rows narrows 'for every input' (looked for: loops, veiled, ifaces, maps, wideKeys, modest, calm, conditions, laid).
  DERIVED. THE GIVEN ROWS OF THIS SEAT. 5 by the template 'for every input the law returns true; each argument reads behind the call as it read before'; 0 by the template 'total and deterministic' (their statements: YtadlpefpehjcoaaGreatTotals.lean).
  GIVEN WITH THE SEED: the statements are not yours to turn. If you find one false, say at which input.
  Laid BY PROGRAM, IN A SANDBOX (cutbox-rows.mjs): the forced cells as the released guide's own fill.sh prints them over the translation 2663a97db504bbe9… (all of the seat's roots in one cut). By AI agents, Wed Nov 11 2026. No macro, syntax, notation, axiom, sorry.
-/
import Derived.Test.YtadlpefpehjcoaaGreatChecked
import GoSem.Claim
import GoSem.ClaimJoined
import GoSem.ClaimMapViews
import Derived.JoinedTies
import Derived.KernelRfl
namespace Go.Proofs.YtadlpefpehjcoaaGreat
/- THE CELL 'sum', in the pinned program and in every row, IS THE sha256 OF THE DUMP (.gsa) THAT YtadlpefpehjcoaaGreatProg.lean LOADS. Nothing in Lean hashes anything: it is a label: what it is worth is what the hold of that sum in a sandbox is worth. -/
noncomputable def Tryz.pinned : Pinned := { name := "ytadlpefpehjcoaagreat", sum := "2663a97db504bbe9e743953ed7351eabb29f469c9b256eeeaefd621d3ef925c3", checked := Tryz.checked }
namespace Rows
def none {H : Type} : Left H := { results := [], args := [] }

/-- 'pagewatchlaw35.OwnerClaims': WHATEVER THE INPUT: true; the input reads as it did. -/
def ownerClaimsSpec : ChangeSpec := { name := "ownerClaims", fn := fun _ => fun
  | [d] => { results := [.lit (.bool true)], args := [d] }
  | _ => none }
def ownerClaimsRow : OpenClaim := { program := "ytadlpefpehjcoaagreat", sum := "2663a97db504bbe9e743953ed7351eabb29f469c9b256eeeaefd621d3ef925c3", func := "pagewatch/pagewatchlaw35.OwnerClaims", spec := "ownerClaims", inPlace := ["slices.overlaps[pagewatch/api.Page]"], unfollowed := true, recurses := true, apart := false }
def OwnerClaimsSaid : Prop := ownerClaimsRow.holds Tryz.pinned (OpenSpec.ofChange ownerClaimsSpec)

/-- ITS FALSE NEIGHBOUR: 'it returns false'. Refute it at one input. -/
def ownerClaimsWrong : ChangeSpec := { name := "ownerClaims", fn := fun _ => fun
  | [d] => { results := [.lit (.bool false)], args := [d] }
  | _ => none }
def OwnerClaimsWrongFalsely : Prop := ownerClaimsRow.holds Tryz.pinned (OpenSpec.ofChange ownerClaimsWrong)

/-- 'pagewatchlaw35.OwnerDrives': WHATEVER THE INPUT: true; the input reads as it did. -/
def ownerDrivesSpec : ChangeSpec := { name := "ownerDrives", fn := fun _ => fun
  | [d1, d2] => { results := [.lit (.bool true)], args := [d1, d2] }
  | _ => none }
def ownerDrivesRow : OpenClaim := { program := "ytadlpefpehjcoaagreat", sum := "2663a97db504bbe9e743953ed7351eabb29f469c9b256eeeaefd621d3ef925c3", func := "pagewatch/pagewatchlaw35.OwnerDrives", spec := "ownerDrives", inPlace := ["slices.overlaps[pagewatch/api.Page]"], unfollowed := true, recurses := true, apart := false }
def OwnerDrivesSaid : Prop := ownerDrivesRow.holds Tryz.pinned (OpenSpec.ofChange ownerDrivesSpec)

/-- ITS FALSE NEIGHBOUR: 'it returns false'. Refute it at one input. -/
def ownerDrivesWrong : ChangeSpec := { name := "ownerDrives", fn := fun _ => fun
  | [d1, d2] => { results := [.lit (.bool false)], args := [d1, d2] }
  | _ => none }
def OwnerDrivesWrongFalsely : Prop := ownerDrivesRow.holds Tryz.pinned (OpenSpec.ofChange ownerDrivesWrong)

/-- 'pagewatchlaw35.OwnerCalls': WHATEVER THE INPUT: true; the input reads as it did. -/
def ownerCallsSpec : ChangeSpec := { name := "ownerCalls", fn := fun _ => fun
  | [d] => { results := [.lit (.bool true)], args := [d] }
  | _ => none }
def ownerCallsRow : OpenClaim := { program := "ytadlpefpehjcoaagreat", sum := "2663a97db504bbe9e743953ed7351eabb29f469c9b256eeeaefd621d3ef925c3", func := "pagewatch/pagewatchlaw35.OwnerCalls", spec := "ownerCalls", inPlace := ["slices.overlaps[pagewatch/api.Page]"], unfollowed := true, recurses := true, apart := false }
def OwnerCallsSaid : Prop := ownerCallsRow.holds Tryz.pinned (OpenSpec.ofChange ownerCallsSpec)

/-- ITS FALSE NEIGHBOUR: 'it returns false'. Refute it at one input. -/
def ownerCallsWrong : ChangeSpec := { name := "ownerCalls", fn := fun _ => fun
  | [d] => { results := [.lit (.bool false)], args := [d] }
  | _ => none }
def OwnerCallsWrongFalsely : Prop := ownerCallsRow.holds Tryz.pinned (OpenSpec.ofChange ownerCallsWrong)

/-- 'pagewatchlaw35.OwnerFences': WHATEVER THE INPUT: true; the input reads as it did. -/
def ownerFencesSpec : ChangeSpec := { name := "ownerFences", fn := fun _ => fun
  | [d] => { results := [.lit (.bool true)], args := [d] }
  | _ => none }
def ownerFencesRow : OpenClaim := { program := "ytadlpefpehjcoaagreat", sum := "2663a97db504bbe9e743953ed7351eabb29f469c9b256eeeaefd621d3ef925c3", func := "pagewatch/pagewatchlaw35.OwnerFences", spec := "ownerFences", inPlace := ["slices.overlaps[pagewatch/api.Page]"], unfollowed := true, recurses := true, apart := false }
def OwnerFencesSaid : Prop := ownerFencesRow.holds Tryz.pinned (OpenSpec.ofChange ownerFencesSpec)

/-- ITS FALSE NEIGHBOUR: 'it returns false'. Refute it at one input. -/
def ownerFencesWrong : ChangeSpec := { name := "ownerFences", fn := fun _ => fun
  | [d] => { results := [.lit (.bool false)], args := [d] }
  | _ => none }
def OwnerFencesWrongFalsely : Prop := ownerFencesRow.holds Tryz.pinned (OpenSpec.ofChange ownerFencesWrong)

/-- 'pagewatchlaw35.OwnerSteps': WHATEVER THE INPUT: true; the input reads as it did. -/
def ownerStepsSpec : ChangeSpec := { name := "ownerSteps", fn := fun _ => fun
  | [d1, d2, d3, d4, d5] => { results := [.lit (.bool true)], args := [d1, d2, d3, d4, d5] }
  | _ => none }
def ownerStepsRow : OpenClaim := { program := "ytadlpefpehjcoaagreat", sum := "2663a97db504bbe9e743953ed7351eabb29f469c9b256eeeaefd621d3ef925c3", func := "pagewatch/pagewatchlaw35.OwnerSteps", spec := "ownerSteps", inPlace := ["slices.overlaps[pagewatch/api.Page]"], unfollowed := true, recurses := true, apart := false }
def OwnerStepsSaid : Prop := ownerStepsRow.holds Tryz.pinned (OpenSpec.ofChange ownerStepsSpec)

/-- ITS FALSE NEIGHBOUR: 'it returns false'. Refute it at one input. -/
def ownerStepsWrong : ChangeSpec := { name := "ownerSteps", fn := fun _ => fun
  | [d1, d2, d3, d4, d5] => { results := [.lit (.bool false)], args := [d1, d2, d3, d4, d5] }
  | _ => none }
def OwnerStepsWrongFalsely : Prop := ownerStepsRow.holds Tryz.pinned (OpenSpec.ofChange ownerStepsWrong)

/- THE SECOND FORM. 'bulk': how many values and letters a reading holds, each counted each time it is reached (what is shared counts as often as it is met; a slice's spare places count too). A statement '..UptoSaid' is the law's where the arguments, and the package variables that the reading takes, are together of bulk at most 1048576: NARROWER than '..Said'. Prove '..Said' where nothing that the law and all that it calls make is longer than what came in: it says more and counts as full. Else prove '..UptoSaid'. A law counts once. -/
mutual
def uptoBulk {H : Type} : DataW H → Nat
  | .lit (.string bytes) => bytes.length + 1
  | .lit _ => 1
  | .nil => 1
  | .ptr d => uptoBulk d + 1
  | .slice elems spare => uptoBulkAll elems + uptoBulkAll spare + 1
  | .agg parts => uptoBulkAll parts + 1
  | .iface _ d => uptoBulk d + 1
  | .map entries => uptoBulkEntries entries + 1
  | .held _ => 1
def uptoBulkAll {H : Type} : List (DataW H) → Nat
  | [] => 0
  | d :: r => uptoBulk d + uptoBulkAll r
def uptoBulkEntries {H : Type} : List (Lit × DataW H) → Nat
  | [] => 0
  | x :: r => uptoBulkEntry x + uptoBulkEntries r
def uptoBulkEntry {H : Type} : Lit × DataW H → Nat
  | (.string bytes, d) => bytes.length + uptoBulk d + 1
  | (_, d) => uptoBulk d + 1
 end
def uptoSmall : (H : Type) → List (DataW H) → Bool := fun _ ds => decide (uptoBulkAll ds ≤ 1048576)
def OpenSpec.upto (s : _root_.Go.ChangeSpec) : _root_.Go.OpenSpec := { _root_.Go.OpenSpec.ofChange s with cond := some uptoSmall }

/-- 'pagewatchlaw35.OwnerClaims', WHERE WHAT IT READS IS OF BULK AT MOST 1048576: true; the input reads as it did. -/
def ownerClaimsUptoRow : OpenClaim := { program := "ytadlpefpehjcoaagreat", sum := "2663a97db504bbe9e743953ed7351eabb29f469c9b256eeeaefd621d3ef925c3", func := "pagewatch/pagewatchlaw35.OwnerClaims", spec := "ownerClaims", inPlace := ["slices.overlaps[pagewatch/api.Page]"], unfollowed := true, recurses := true, apart := false, narrowed := true }
def OwnerClaimsUptoSaid : Prop := ownerClaimsUptoRow.holds Tryz.pinned (OpenSpec.upto ownerClaimsSpec)

/-- 'pagewatchlaw35.OwnerDrives', WHERE WHAT IT READS IS OF BULK AT MOST 1048576: true; the input reads as it did. -/
def ownerDrivesUptoRow : OpenClaim := { program := "ytadlpefpehjcoaagreat", sum := "2663a97db504bbe9e743953ed7351eabb29f469c9b256eeeaefd621d3ef925c3", func := "pagewatch/pagewatchlaw35.OwnerDrives", spec := "ownerDrives", inPlace := ["slices.overlaps[pagewatch/api.Page]"], unfollowed := true, recurses := true, apart := false, narrowed := true }
def OwnerDrivesUptoSaid : Prop := ownerDrivesUptoRow.holds Tryz.pinned (OpenSpec.upto ownerDrivesSpec)

/-- 'pagewatchlaw35.OwnerCalls', WHERE WHAT IT READS IS OF BULK AT MOST 1048576: true; the input reads as it did. -/
def ownerCallsUptoRow : OpenClaim := { program := "ytadlpefpehjcoaagreat", sum := "2663a97db504bbe9e743953ed7351eabb29f469c9b256eeeaefd621d3ef925c3", func := "pagewatch/pagewatchlaw35.OwnerCalls", spec := "ownerCalls", inPlace := ["slices.overlaps[pagewatch/api.Page]"], unfollowed := true, recurses := true, apart := false, narrowed := true }
def OwnerCallsUptoSaid : Prop := ownerCallsUptoRow.holds Tryz.pinned (OpenSpec.upto ownerCallsSpec)

/-- 'pagewatchlaw35.OwnerFences', WHERE WHAT IT READS IS OF BULK AT MOST 1048576: true; the input reads as it did. -/
def ownerFencesUptoRow : OpenClaim := { program := "ytadlpefpehjcoaagreat", sum := "2663a97db504bbe9e743953ed7351eabb29f469c9b256eeeaefd621d3ef925c3", func := "pagewatch/pagewatchlaw35.OwnerFences", spec := "ownerFences", inPlace := ["slices.overlaps[pagewatch/api.Page]"], unfollowed := true, recurses := true, apart := false, narrowed := true }
def OwnerFencesUptoSaid : Prop := ownerFencesUptoRow.holds Tryz.pinned (OpenSpec.upto ownerFencesSpec)

/-- 'pagewatchlaw35.OwnerSteps', WHERE WHAT IT READS IS OF BULK AT MOST 1048576: true; the input reads as it did. -/
def ownerStepsUptoRow : OpenClaim := { program := "ytadlpefpehjcoaagreat", sum := "2663a97db504bbe9e743953ed7351eabb29f469c9b256eeeaefd621d3ef925c3", func := "pagewatch/pagewatchlaw35.OwnerSteps", spec := "ownerSteps", inPlace := ["slices.overlaps[pagewatch/api.Page]"], unfollowed := true, recurses := true, apart := false, narrowed := true }
def OwnerStepsUptoSaid : Prop := ownerStepsUptoRow.holds Tryz.pinned (OpenSpec.upto ownerStepsSpec)

end Rows
end Go.Proofs.YtadlpefpehjcoaaGreat
