/-
  No cell of these rows narrows 'for every input' (looked for: loops, veiled, ifaces, maps, wideKeys, modest, calm, conditions, laid).
  DERIVED. THE GIVEN ROWS OF THIS SEAT. 3 by the template 'for every input the law returns true; each argument reads behind the call as it read before'; 0 by the template 'total and deterministic' (their statements: YteccnpkpjaknkaaTotals.lean).
  GIVEN WITH THE SEED: the statements are not yours to turn. If you find one false, say at which input.
  Laid BY PROGRAM, IN A SANDBOX (cutbox-rows.mjs): the forced cells as the released guide's own fill.sh prints them over the translation 07ad04e6bb940676… (all of the seat's roots in one cut). By AI agents, Wed Nov 11 2026. No macro, syntax, notation, axiom, sorry.
-/
import Derived.Test.YteccnpkpjaknkaaChecked
import GoSem.Claim
import GoSem.ClaimJoined
import GoSem.ClaimMapViews
import Derived.JoinedTies
import Derived.KernelRfl
namespace Go.Proofs.Yteccnpkpjaknkaa
/- THE CELL 'sum', in the pinned program and in every row, IS THE sha256 OF THE DUMP (.gsa) THAT YteccnpkpjaknkaaProg.lean LOADS. Nothing in Lean hashes anything: it is a label: what it is worth is what the hold of that sum in a sandbox is worth. -/
noncomputable def Try.pinned : Pinned := { name := "yteccnpkpjaknkaa", sum := "07ad04e6bb940676f9c6a25e807c05ddabd107e2860938939ec74cc48ad1e664", checked := Try.checked }
namespace Rows
def none {H : Type} : Left H := { results := [], args := [] }

/-- 'pagewatchlaw25.PolicyOffsets': WHATEVER THE INPUT: true; the input reads as it did. -/
def policyOffsetsSpec : ChangeSpec := { name := "policyOffsets", fn := fun _ => fun
  | [d1, d2] => { results := [.lit (.bool true)], args := [d1, d2] }
  | _ => none }
def policyOffsetsRow : OpenClaim := { program := "yteccnpkpjaknkaa", sum := "07ad04e6bb940676f9c6a25e807c05ddabd107e2860938939ec74cc48ad1e664", func := "pagewatch/pagewatchlaw25.PolicyOffsets", spec := "policyOffsets", apart := false }
def PolicyOffsetsSaid : Prop := policyOffsetsRow.holds Try.pinned (OpenSpec.ofChange policyOffsetsSpec)

/-- ITS FALSE NEIGHBOUR: 'it returns false'. Refute it at one input. -/
def policyOffsetsWrong : ChangeSpec := { name := "policyOffsets", fn := fun _ => fun
  | [d1, d2] => { results := [.lit (.bool false)], args := [d1, d2] }
  | _ => none }
def PolicyOffsetsWrongFalsely : Prop := policyOffsetsRow.holds Try.pinned (OpenSpec.ofChange policyOffsetsWrong)

/-- 'pagewatchlaw25.PolicyGrows': WHATEVER THE INPUT: true; the input reads as it did. -/
def policyGrowsSpec : ChangeSpec := { name := "policyGrows", fn := fun _ => fun
  | [d1, d2] => { results := [.lit (.bool true)], args := [d1, d2] }
  | _ => none }
def policyGrowsRow : OpenClaim := { program := "yteccnpkpjaknkaa", sum := "07ad04e6bb940676f9c6a25e807c05ddabd107e2860938939ec74cc48ad1e664", func := "pagewatch/pagewatchlaw25.PolicyGrows", spec := "policyGrows", apart := false }
def PolicyGrowsSaid : Prop := policyGrowsRow.holds Try.pinned (OpenSpec.ofChange policyGrowsSpec)

/-- ITS FALSE NEIGHBOUR: 'it returns false'. Refute it at one input. -/
def policyGrowsWrong : ChangeSpec := { name := "policyGrows", fn := fun _ => fun
  | [d1, d2] => { results := [.lit (.bool false)], args := [d1, d2] }
  | _ => none }
def PolicyGrowsWrongFalsely : Prop := policyGrowsRow.holds Try.pinned (OpenSpec.ofChange policyGrowsWrong)

/-- 'pagewatchlaw25.PolicySteps': WHATEVER THE INPUT: true; the input reads as it did. -/
def policyStepsSpec : ChangeSpec := { name := "policySteps", fn := fun _ => fun
  | [d1, d2, d3, d4] => { results := [.lit (.bool true)], args := [d1, d2, d3, d4] }
  | _ => none }
def policyStepsRow : OpenClaim := { program := "yteccnpkpjaknkaa", sum := "07ad04e6bb940676f9c6a25e807c05ddabd107e2860938939ec74cc48ad1e664", func := "pagewatch/pagewatchlaw25.PolicySteps", spec := "policySteps", apart := false }
def PolicyStepsSaid : Prop := policyStepsRow.holds Try.pinned (OpenSpec.ofChange policyStepsSpec)

/-- ITS FALSE NEIGHBOUR: 'it returns false'. Refute it at one input. -/
def policyStepsWrong : ChangeSpec := { name := "policySteps", fn := fun _ => fun
  | [d1, d2, d3, d4] => { results := [.lit (.bool false)], args := [d1, d2, d3, d4] }
  | _ => none }
def PolicyStepsWrongFalsely : Prop := policyStepsRow.holds Try.pinned (OpenSpec.ofChange policyStepsWrong)

/- THE SECOND FORM. 'bulk': how many values and letters a reading holds, each counted each time it is reached (what is shared counts as often as it is met; a slice's spare places count too). A statement '..UptoSaid' is the law's where the arguments, and the package variables that the reading takes, are together of bulk at most 1048576: NARROWER than '..Said'. Prove '..Said' where nothing that the law and all that it calls make is longer than what came in: it says more and counts as full. Else prove '..UptoSaid'. A law counts once. -/
mutual
def uptoBulk {H : Type} : DataW H → Nat
  | .lit (.string bytes) => bytes.length + 1
  | .lit _ => 1
  | .nil => 1
  | .ptr d => uptoBulk d + 1
  | .slice elems spare => uptoBulkAll elems + uptoBulkAll spare + 1
  | .agg parts => uptoBulkAll parts + 1
  | .iface _ d => uptoBulk d + 1
  | .map entries => uptoBulkEntries entries + 1
  | .held _ => 1
def uptoBulkAll {H : Type} : List (DataW H) → Nat
  | [] => 0
  | d :: r => uptoBulk d + uptoBulkAll r
def uptoBulkEntries {H : Type} : List (Lit × DataW H) → Nat
  | [] => 0
  | x :: r => uptoBulkEntry x + uptoBulkEntries r
def uptoBulkEntry {H : Type} : Lit × DataW H → Nat
  | (.string bytes, d) => bytes.length + uptoBulk d + 1
  | (_, d) => uptoBulk d + 1
 end
def uptoSmall : (H : Type) → List (DataW H) → Bool := fun _ ds => decide (uptoBulkAll ds ≤ 1048576)
def OpenSpec.upto (s : _root_.Go.ChangeSpec) : _root_.Go.OpenSpec := { _root_.Go.OpenSpec.ofChange s with cond := some uptoSmall }

/-- 'pagewatchlaw25.PolicyOffsets', WHERE WHAT IT READS IS OF BULK AT MOST 1048576: true; the input reads as it did. -/
def policyOffsetsUptoRow : OpenClaim := { program := "yteccnpkpjaknkaa", sum := "07ad04e6bb940676f9c6a25e807c05ddabd107e2860938939ec74cc48ad1e664", func := "pagewatch/pagewatchlaw25.PolicyOffsets", spec := "policyOffsets", apart := false, narrowed := true }
def PolicyOffsetsUptoSaid : Prop := policyOffsetsUptoRow.holds Try.pinned (OpenSpec.upto policyOffsetsSpec)

/-- 'pagewatchlaw25.PolicyGrows', WHERE WHAT IT READS IS OF BULK AT MOST 1048576: true; the input reads as it did. -/
def policyGrowsUptoRow : OpenClaim := { program := "yteccnpkpjaknkaa", sum := "07ad04e6bb940676f9c6a25e807c05ddabd107e2860938939ec74cc48ad1e664", func := "pagewatch/pagewatchlaw25.PolicyGrows", spec := "policyGrows", apart := false, narrowed := true }
def PolicyGrowsUptoSaid : Prop := policyGrowsUptoRow.holds Try.pinned (OpenSpec.upto policyGrowsSpec)

/-- 'pagewatchlaw25.PolicySteps', WHERE WHAT IT READS IS OF BULK AT MOST 1048576: true; the input reads as it did. -/
def policyStepsUptoRow : OpenClaim := { program := "yteccnpkpjaknkaa", sum := "07ad04e6bb940676f9c6a25e807c05ddabd107e2860938939ec74cc48ad1e664", func := "pagewatch/pagewatchlaw25.PolicySteps", spec := "policySteps", apart := false, narrowed := true }
def PolicyStepsUptoSaid : Prop := policyStepsUptoRow.holds Try.pinned (OpenSpec.upto policyStepsSpec)

end Rows
end Go.Proofs.Yteccnpkpjaknkaa
