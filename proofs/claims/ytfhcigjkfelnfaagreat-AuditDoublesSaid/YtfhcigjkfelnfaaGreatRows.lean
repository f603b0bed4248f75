/-
  No cell of these rows narrows 'for every input' (looked for: loops, veiled, ifaces, maps, wideKeys, modest, calm, conditions, laid).
  DERIVED. THE GIVEN ROWS OF THIS SEAT. 12 by the template 'for every input the law returns true; each argument reads behind the call as it read before'; 0 by the template 'total and deterministic' (their statements: YtfhcigjkfelnfaaGreatTotals.lean).
  GIVEN WITH THE SEED: the statements are not yours to turn. If you find one false, say at which input.
  Laid BY PROGRAM, IN A SANDBOX (cutbox-rows.mjs): the forced cells as the released guide's own fill.sh prints them over the translation 50dbccaa625d3b58… (all of the seat's roots in one cut). By AI agents, Wed Nov 11 2026. No macro, syntax, notation, axiom, sorry.
-/
import Derived.Test.YtfhcigjkfelnfaaGreatChecked
import GoSem.Claim
import GoSem.ClaimJoined
import GoSem.ClaimMapViews
import Derived.JoinedTies
import Derived.KernelRfl
namespace Go.Proofs.YtfhcigjkfelnfaaGreat
/- THE CELL 'sum', in the pinned program and in every row, IS THE sha256 OF THE DUMP (.gsa) THAT YtfhcigjkfelnfaaGreatProg.lean LOADS. Nothing in Lean hashes anything: it is a label: what it is worth is what the hold of that sum in a sandbox is worth. -/
noncomputable def Tryz.pinned : Pinned := { name := "ytfhcigjkfelnfaagreat", sum := "50dbccaa625d3b58c466afb2d612a25afb0c212c4e9224c26d2d78af26895bb0", checked := Tryz.checked }
namespace Rows
def none {H : Type} : Left H := { results := [], args := [] }

/-- 'pagewatchlaw45.AuditDoubles': WHATEVER THE INPUT: true; the input reads as it did. -/
def auditDoublesSpec : ChangeSpec := { name := "auditDoubles", fn := fun _ => fun
  | [d] => { results := [.lit (.bool true)], args := [d] }
  | _ => none }
def auditDoublesRow : OpenClaim := { program := "ytfhcigjkfelnfaagreat", sum := "50dbccaa625d3b58c466afb2d612a25afb0c212c4e9224c26d2d78af26895bb0", func := "pagewatch/pagewatchlaw45.AuditDoubles", spec := "auditDoubles", unfollowed := true, recurses := true, apart := false }
def AuditDoublesSaid : Prop := auditDoublesRow.holds Tryz.pinned (OpenSpec.ofChange auditDoublesSpec)

/-- ITS FALSE NEIGHBOUR: 'it returns false'. Refute it at one input. -/
def auditDoublesWrong : ChangeSpec := { name := "auditDoubles", fn := fun _ => fun
  | [d] => { results := [.lit (.bool false)], args := [d] }
  | _ => none }
def AuditDoublesWrongFalsely : Prop := auditDoublesRow.holds Tryz.pinned (OpenSpec.ofChange auditDoublesWrong)

/-- 'pagewatchlaw45.AuditLate': WHATEVER THE INPUT: true; the input reads as it did. -/
def auditLateSpec : ChangeSpec := { name := "auditLate", fn := fun _ => fun
  | [d] => { results := [.lit (.bool true)], args := [d] }
  | _ => none }
def auditLateRow : OpenClaim := { program := "ytfhcigjkfelnfaagreat", sum := "50dbccaa625d3b58c466afb2d612a25afb0c212c4e9224c26d2d78af26895bb0", func := "pagewatch/pagewatchlaw45.AuditLate", spec := "auditLate", unfollowed := true, recurses := true, apart := false }
def AuditLateSaid : Prop := auditLateRow.holds Tryz.pinned (OpenSpec.ofChange auditLateSpec)

/-- ITS FALSE NEIGHBOUR: 'it returns false'. Refute it at one input. -/
def auditLateWrong : ChangeSpec := { name := "auditLate", fn := fun _ => fun
  | [d] => { results := [.lit (.bool false)], args := [d] }
  | _ => none }
def AuditLateWrongFalsely : Prop := auditLateRow.holds Tryz.pinned (OpenSpec.ofChange auditLateWrong)

/-- 'pagewatchlaw25.PolicyMembers': WHATEVER THE INPUT: true; the input reads as it did. -/
def policyMembersSpec : ChangeSpec := { name := "policyMembers", fn := fun _ => fun
  | [d] => { results := [.lit (.bool true)], args := [d] }
  | _ => none }
def policyMembersRow : OpenClaim := { program := "ytfhcigjkfelnfaagreat", sum := "50dbccaa625d3b58c466afb2d612a25afb0c212c4e9224c26d2d78af26895bb0", func := "pagewatch/pagewatchlaw25.PolicyMembers", spec := "policyMembers", unfollowed := true, recurses := true, apart := false }
def PolicyMembersSaid : Prop := policyMembersRow.holds Tryz.pinned (OpenSpec.ofChange policyMembersSpec)

/-- ITS FALSE NEIGHBOUR: 'it returns false'. Refute it at one input. -/
def policyMembersWrong : ChangeSpec := { name := "policyMembers", fn := fun _ => fun
  | [d] => { results := [.lit (.bool false)], args := [d] }
  | _ => none }
def PolicyMembersWrongFalsely : Prop := policyMembersRow.holds Tryz.pinned (OpenSpec.ofChange policyMembersWrong)

/-- 'pagewatchlaw45.AuditRosters': WHATEVER THE INPUT: true; the input reads as it did. -/
def auditRostersSpec : ChangeSpec := { name := "auditRosters", fn := fun _ => fun
  | [d] => { results := [.lit (.bool true)], args := [d] }
  | _ => none }
def auditRostersRow : OpenClaim := { program := "ytfhcigjkfelnfaagreat", sum := "50dbccaa625d3b58c466afb2d612a25afb0c212c4e9224c26d2d78af26895bb0", func := "pagewatch/pagewatchlaw45.AuditRosters", spec := "auditRosters", unfollowed := true, recurses := true, apart := false }
def AuditRostersSaid : Prop := auditRostersRow.holds Tryz.pinned (OpenSpec.ofChange auditRostersSpec)

/-- ITS FALSE NEIGHBOUR: 'it returns false'. Refute it at one input. -/
def auditRostersWrong : ChangeSpec := { name := "auditRosters", fn := fun _ => fun
  | [d] => { results := [.lit (.bool false)], args := [d] }
  | _ => none }
def AuditRostersWrongFalsely : Prop := auditRostersRow.holds Tryz.pinned (OpenSpec.ofChange auditRostersWrong)

/-- 'pagewatchlaw29.EscalateDeclines': WHATEVER THE INPUT: true; the input reads as it did. -/
def escalateDeclinesSpec : ChangeSpec := { name := "escalateDeclines", fn := fun _ => fun
  | [d] => { results := [.lit (.bool true)], args := [d] }
  | _ => none }
def escalateDeclinesRow : OpenClaim := { program := "ytfhcigjkfelnfaagreat", sum := "50dbccaa625d3b58c466afb2d612a25afb0c212c4e9224c26d2d78af26895bb0", func := "pagewatch/pagewatchlaw29.EscalateDeclines", spec := "escalateDeclines", unfollowed := true, recurses := true, apart := false }
def EscalateDeclinesSaid : Prop := escalateDeclinesRow.holds Tryz.pinned (OpenSpec.ofChange escalateDeclinesSpec)

/-- ITS FALSE NEIGHBOUR: 'it returns false'. Refute it at one input. -/
def escalateDeclinesWrong : ChangeSpec := { name := "escalateDeclines", fn := fun _ => fun
  | [d] => { results := [.lit (.bool false)], args := [d] }
  | _ => none }
def EscalateDeclinesWrongFalsely : Prop := escalateDeclinesRow.holds Tryz.pinned (OpenSpec.ofChange escalateDeclinesWrong)

/-- 'pagewatchlaw29.EscalateRests': WHATEVER THE INPUT: true; the input reads as it did. -/
def escalateRestsSpec : ChangeSpec := { name := "escalateRests", fn := fun _ => fun
  | [d1, d2] => { results := [.lit (.bool true)], args := [d1, d2] }
  | _ => none }
def escalateRestsRow : OpenClaim := { program := "ytfhcigjkfelnfaagreat", sum := "50dbccaa625d3b58c466afb2d612a25afb0c212c4e9224c26d2d78af26895bb0", func := "pagewatch/pagewatchlaw29.EscalateRests", spec := "escalateRests", unfollowed := true, recurses := true, apart := false }
def EscalateRestsSaid : Prop := escalateRestsRow.holds Tryz.pinned (OpenSpec.ofChange escalateRestsSpec)

/-- ITS FALSE NEIGHBOUR: 'it returns false'. Refute it at one input. -/
def escalateRestsWrong : ChangeSpec := { name := "escalateRests", fn := fun _ => fun
  | [d1, d2] => { results := [.lit (.bool false)], args := [d1, d2] }
  | _ => none }
def EscalateRestsWrongFalsely : Prop := escalateRestsRow.holds Tryz.pinned (OpenSpec.ofChange escalateRestsWrong)

/-- 'pagewatchlaw29.EscalateNew': WHATEVER THE INPUT: true; the input reads as it did. -/
def escalateNewSpec : ChangeSpec := { name := "escalateNew", fn := fun _ => fun
  | [d1, d2, d3, d4] => { results := [.lit (.bool true)], args := [d1, d2, d3, d4] }
  | _ => none }
def escalateNewRow : OpenClaim := { program := "ytfhcigjkfelnfaagreat", sum := "50dbccaa625d3b58c466afb2d612a25afb0c212c4e9224c26d2d78af26895bb0", func := "pagewatch/pagewatchlaw29.EscalateNew", spec := "escalateNew", unfollowed := true, recurses := true, apart := false }
def EscalateNewSaid : Prop := escalateNewRow.holds Tryz.pinned (OpenSpec.ofChange escalateNewSpec)

/-- ITS FALSE NEIGHBOUR: 'it returns false'. Refute it at one input. -/
def escalateNewWrong : ChangeSpec := { name := "escalateNew", fn := fun _ => fun
  | [d1, d2, d3, d4] => { results := [.lit (.bool false)], args := [d1, d2, d3, d4] }
  | _ => none }
def EscalateNewWrongFalsely : Prop := escalateNewRow.holds Tryz.pinned (OpenSpec.ofChange escalateNewWrong)

/-- 'pagewatchlaw29.EscalateOnce': WHATEVER THE INPUT: true; the input reads as it did. -/
def escalateOnceSpec : ChangeSpec := { name := "escalateOnce", fn := fun _ => fun
  | [d] => { results := [.lit (.bool true)], args := [d] }
  | _ => none }
def escalateOnceRow : OpenClaim := { program := "ytfhcigjkfelnfaagreat", sum := "50dbccaa625d3b58c466afb2d612a25afb0c212c4e9224c26d2d78af26895bb0", func := "pagewatch/pagewatchlaw29.EscalateOnce", spec := "escalateOnce", unfollowed := true, recurses := true, apart := false }
def EscalateOnceSaid : Prop := escalateOnceRow.holds Tryz.pinned (OpenSpec.ofChange escalateOnceSpec)

/-- ITS FALSE NEIGHBOUR: 'it returns false'. Refute it at one input. -/
def escalateOnceWrong : ChangeSpec := { name := "escalateOnce", fn := fun _ => fun
  | [d] => { results := [.lit (.bool false)], args := [d] }
  | _ => none }
def EscalateOnceWrongFalsely : Prop := escalateOnceRow.holds Tryz.pinned (OpenSpec.ofChange escalateOnceWrong)

/-- 'pagewatchlaw29.EscalateSplits': WHATEVER THE INPUT: true; the input reads as it did. -/
def escalateSplitsSpec : ChangeSpec := { name := "escalateSplits", fn := fun _ => fun
  | [d1, d2, d3] => { results := [.lit (.bool true)], args := [d1, d2, d3] }
  | _ => none }
def escalateSplitsRow : OpenClaim := { program := "ytfhcigjkfelnfaagreat", sum := "50dbccaa625d3b58c466afb2d612a25afb0c212c4e9224c26d2d78af26895bb0", func := "pagewatch/pagewatchlaw29.EscalateSplits", spec := "escalateSplits", unfollowed := true, recurses := true, apart := false }
def EscalateSplitsSaid : Prop := escalateSplitsRow.holds Tryz.pinned (OpenSpec.ofChange escalateSplitsSpec)

/-- ITS FALSE NEIGHBOUR: 'it returns false'. Refute it at one input. -/
def escalateSplitsWrong : ChangeSpec := { name := "escalateSplits", fn := fun _ => fun
  | [d1, d2, d3] => { results := [.lit (.bool false)], args := [d1, d2, d3] }
  | _ => none }
def EscalateSplitsWrongFalsely : Prop := escalateSplitsRow.holds Tryz.pinned (OpenSpec.ofChange escalateSplitsWrong)

/-- 'pagewatchlaw29.EscalateAnswers': WHATEVER THE INPUT: true; the input reads as it did. -/
def escalateAnswersSpec : ChangeSpec := { name := "escalateAnswers", fn := fun _ => fun
  | [d1, d2] => { results := [.lit (.bool true)], args := [d1, d2] }
  | _ => none }
def escalateAnswersRow : OpenClaim := { program := "ytfhcigjkfelnfaagreat", sum := "50dbccaa625d3b58c466afb2d612a25afb0c212c4e9224c26d2d78af26895bb0", func := "pagewatch/pagewatchlaw29.EscalateAnswers", spec := "escalateAnswers", unfollowed := true, recurses := true, apart := false }
def EscalateAnswersSaid : Prop := escalateAnswersRow.holds Tryz.pinned (OpenSpec.ofChange escalateAnswersSpec)

/-- ITS FALSE NEIGHBOUR: 'it returns false'. Refute it at one input. -/
def escalateAnswersWrong : ChangeSpec := { name := "escalateAnswers", fn := fun _ => fun
  | [d1, d2] => { results := [.lit (.bool false)], args := [d1, d2] }
  | _ => none }
def EscalateAnswersWrongFalsely : Prop := escalateAnswersRow.holds Tryz.pinned (OpenSpec.ofChange escalateAnswersWrong)

/-- 'pagewatchlaw29.EscalateSteps': WHATEVER THE INPUT: true; the input reads as it did. -/
def escalateStepsSpec : ChangeSpec := { name := "escalateSteps", fn := fun _ => fun
  | [d1, d2] => { results := [.lit (.bool true)], args := [d1, d2] }
  | _ => none }
def escalateStepsRow : OpenClaim := { program := "ytfhcigjkfelnfaagreat", sum := "50dbccaa625d3b58c466afb2d612a25afb0c212c4e9224c26d2d78af26895bb0", func := "pagewatch/pagewatchlaw29.EscalateSteps", spec := "escalateSteps", unfollowed := true, recurses := true, apart := false }
def EscalateStepsSaid : Prop := escalateStepsRow.holds Tryz.pinned (OpenSpec.ofChange escalateStepsSpec)

/-- ITS FALSE NEIGHBOUR: 'it returns false'. Refute it at one input. -/
def escalateStepsWrong : ChangeSpec := { name := "escalateSteps", fn := fun _ => fun
  | [d1, d2] => { results := [.lit (.bool false)], args := [d1, d2] }
  | _ => none }
def EscalateStepsWrongFalsely : Prop := escalateStepsRow.holds Tryz.pinned (OpenSpec.ofChange escalateStepsWrong)

/-- 'pagewatchlaw29.EscalateEnds': WHATEVER THE INPUT: true; the input reads as it did. -/
def escalateEndsSpec : ChangeSpec := { name := "escalateEnds", fn := fun _ => fun
  | [d] => { results := [.lit (.bool true)], args := [d] }
  | _ => none }
def escalateEndsRow : OpenClaim := { program := "ytfhcigjkfelnfaagreat", sum := "50dbccaa625d3b58c466afb2d612a25afb0c212c4e9224c26d2d78af26895bb0", func := "pagewatch/pagewatchlaw29.EscalateEnds", spec := "escalateEnds", unfollowed := true, recurses := true, apart := false }
def EscalateEndsSaid : Prop := escalateEndsRow.holds Tryz.pinned (OpenSpec.ofChange escalateEndsSpec)

/-- ITS FALSE NEIGHBOUR: 'it returns false'. Refute it at one input. -/
def escalateEndsWrong : ChangeSpec := { name := "escalateEnds", fn := fun _ => fun
  | [d] => { results := [.lit (.bool false)], args := [d] }
  | _ => none }
def EscalateEndsWrongFalsely : Prop := escalateEndsRow.holds Tryz.pinned (OpenSpec.ofChange escalateEndsWrong)

/- THE SECOND FORM. 'bulk': how many values and letters a reading holds, each counted each time it is reached (what is shared counts as often as it is met; a slice's spare places count too). A statement '..UptoSaid' is the law's where the arguments, and the package variables that the reading takes, are together of bulk at most 1048576: NARROWER than '..Said'. Prove '..Said' where nothing that the law and all that it calls make is longer than what came in: it says more and counts as full. Else prove '..UptoSaid'. A law counts once. -/
mutual
def uptoBulk {H : Type} : DataW H → Nat
  | .lit (.string bytes) => bytes.length + 1
  | .lit _ => 1
  | .nil => 1
  | .ptr d => uptoBulk d + 1
  | .slice elems spare => uptoBulkAll elems + uptoBulkAll spare + 1
  | .agg parts => uptoBulkAll parts + 1
  | .iface _ d => uptoBulk d + 1
  | .map entries => uptoBulkEntries entries + 1
  | .held _ => 1
def uptoBulkAll {H : Type} : List (DataW H) → Nat
  | [] => 0
  | d :: r => uptoBulk d + uptoBulkAll r
def uptoBulkEntries {H : Type} : List (Lit × DataW H) → Nat
  | [] => 0
  | x :: r => uptoBulkEntry x + uptoBulkEntries r
def uptoBulkEntry {H : Type} : Lit × DataW H → Nat
  | (.string bytes, d) => bytes.length + uptoBulk d + 1
  | (_, d) => uptoBulk d + 1
 end
def uptoSmall : (H : Type) → List (DataW H) → Bool := fun _ ds => decide (uptoBulkAll ds ≤ 1048576)
def OpenSpec.upto (s : _root_.Go.ChangeSpec) : _root_.Go.OpenSpec := { _root_.Go.OpenSpec.ofChange s with cond := some uptoSmall }

/-- 'pagewatchlaw45.AuditDoubles', WHERE WHAT IT READS IS OF BULK AT MOST 1048576: true; the input reads as it did. -/
def auditDoublesUptoRow : OpenClaim := { program := "ytfhcigjkfelnfaagreat", sum := "50dbccaa625d3b58c466afb2d612a25afb0c212c4e9224c26d2d78af26895bb0", func := "pagewatch/pagewatchlaw45.AuditDoubles", spec := "auditDoubles", unfollowed := true, recurses := true, apart := false, narrowed := true }
def AuditDoublesUptoSaid : Prop := auditDoublesUptoRow.holds Tryz.pinned (OpenSpec.upto auditDoublesSpec)

/-- 'pagewatchlaw45.AuditLate', WHERE WHAT IT READS IS OF BULK AT MOST 1048576: true; the input reads as it did. -/
def auditLateUptoRow : OpenClaim := { program := "ytfhcigjkfelnfaagreat", sum := "50dbccaa625d3b58c466afb2d612a25afb0c212c4e9224c26d2d78af26895bb0", func := "pagewatch/pagewatchlaw45.AuditLate", spec := "auditLate", unfollowed := true, recurses := true, apart := false, narrowed := true }
def AuditLateUptoSaid : Prop := auditLateUptoRow.holds Tryz.pinned (OpenSpec.upto auditLateSpec)

/-- 'pagewatchlaw25.PolicyMembers', WHERE WHAT IT READS IS OF BULK AT MOST 1048576: true; the input reads as it did. -/
def policyMembersUptoRow : OpenClaim := { program := "ytfhcigjkfelnfaagreat", sum := "50dbccaa625d3b58c466afb2d612a25afb0c212c4e9224c26d2d78af26895bb0", func := "pagewatch/pagewatchlaw25.PolicyMembers", spec := "policyMembers", unfollowed := true, recurses := true, apart := false, narrowed := true }
def PolicyMembersUptoSaid : Prop := policyMembersUptoRow.holds Tryz.pinned (OpenSpec.upto policyMembersSpec)

/-- 'pagewatchlaw45.AuditRosters', WHERE WHAT IT READS IS OF BULK AT MOST 1048576: true; the input reads as it did. -/
def auditRostersUptoRow : OpenClaim := { program := "ytfhcigjkfelnfaagreat", sum := "50dbccaa625d3b58c466afb2d612a25afb0c212c4e9224c26d2d78af26895bb0", func := "pagewatch/pagewatchlaw45.AuditRosters", spec := "auditRosters", unfollowed := true, recurses := true, apart := false, narrowed := true }
def AuditRostersUptoSaid : Prop := auditRostersUptoRow.holds Tryz.pinned (OpenSpec.upto auditRostersSpec)

/-- 'pagewatchlaw29.EscalateDeclines', WHERE WHAT IT READS IS OF BULK AT MOST 1048576: true; the input reads as it did. -/
def escalateDeclinesUptoRow : OpenClaim := { program := "ytfhcigjkfelnfaagreat", sum := "50dbccaa625d3b58c466afb2d612a25afb0c212c4e9224c26d2d78af26895bb0", func := "pagewatch/pagewatchlaw29.EscalateDeclines", spec := "escalateDeclines", unfollowed := true, recurses := true, apart := false, narrowed := true }
def EscalateDeclinesUptoSaid : Prop := escalateDeclinesUptoRow.holds Tryz.pinned (OpenSpec.upto escalateDeclinesSpec)

/-- 'pagewatchlaw29.EscalateRests', WHERE WHAT IT READS IS OF BULK AT MOST 1048576: true; the input reads as it did. -/
def escalateRestsUptoRow : OpenClaim := { program := "ytfhcigjkfelnfaagreat", sum := "50dbccaa625d3b58c466afb2d612a25afb0c212c4e9224c26d2d78af26895bb0", func := "pagewatch/pagewatchlaw29.EscalateRests", spec := "escalateRests", unfollowed := true, recurses := true, apart := false, narrowed := true }
def EscalateRestsUptoSaid : Prop := escalateRestsUptoRow.holds Tryz.pinned (OpenSpec.upto escalateRestsSpec)

/-- 'pagewatchlaw29.EscalateNew', WHERE WHAT IT READS IS OF BULK AT MOST 1048576: true; the input reads as it did. -/
def escalateNewUptoRow : OpenClaim := { program := "ytfhcigjkfelnfaagreat", sum := "50dbccaa625d3b58c466afb2d612a25afb0c212c4e9224c26d2d78af26895bb0", func := "pagewatch/pagewatchlaw29.EscalateNew", spec := "escalateNew", unfollowed := true, recurses := true, apart := false, narrowed := true }
def EscalateNewUptoSaid : Prop := escalateNewUptoRow.holds Tryz.pinned (OpenSpec.upto escalateNewSpec)

/-- 'pagewatchlaw29.EscalateOnce', WHERE WHAT IT READS IS OF BULK AT MOST 1048576: true; the input reads as it did. -/
def escalateOnceUptoRow : OpenClaim := { program := "ytfhcigjkfelnfaagreat", sum := "50dbccaa625d3b58c466afb2d612a25afb0c212c4e9224c26d2d78af26895bb0", func := "pagewatch/pagewatchlaw29.EscalateOnce", spec := "escalateOnce", unfollowed := true, recurses := true, apart := false, narrowed := true }
def EscalateOnceUptoSaid : Prop := escalateOnceUptoRow.holds Tryz.pinned (OpenSpec.upto escalateOnceSpec)

/-- 'pagewatchlaw29.EscalateSplits', WHERE WHAT IT READS IS OF BULK AT MOST 1048576: true; the input reads as it did. -/
def escalateSplitsUptoRow : OpenClaim := { program := "ytfhcigjkfelnfaagreat", sum := "50dbccaa625d3b58c466afb2d612a25afb0c212c4e9224c26d2d78af26895bb0", func := "pagewatch/pagewatchlaw29.EscalateSplits", spec := "escalateSplits", unfollowed := true, recurses := true, apart := false, narrowed := true }
def EscalateSplitsUptoSaid : Prop := escalateSplitsUptoRow.holds Tryz.pinned (OpenSpec.upto escalateSplitsSpec)

/-- 'pagewatchlaw29.EscalateAnswers', WHERE WHAT IT READS IS OF BULK AT MOST 1048576: true; the input reads as it did. -/
def escalateAnswersUptoRow : OpenClaim := { program := "ytfhcigjkfelnfaagreat", sum := "50dbccaa625d3b58c466afb2d612a25afb0c212c4e9224c26d2d78af26895bb0", func := "pagewatch/pagewatchlaw29.EscalateAnswers", spec := "escalateAnswers", unfollowed := true, recurses := true, apart := false, narrowed := true }
def EscalateAnswersUptoSaid : Prop := escalateAnswersUptoRow.holds Tryz.pinned (OpenSpec.upto escalateAnswersSpec)

/-- 'pagewatchlaw29.EscalateSteps', WHERE WHAT IT READS IS OF BULK AT MOST 1048576: true; the input reads as it did. -/
def escalateStepsUptoRow : OpenClaim := { program := "ytfhcigjkfelnfaagreat", sum := "50dbccaa625d3b58c466afb2d612a25afb0c212c4e9224c26d2d78af26895bb0", func := "pagewatch/pagewatchlaw29.EscalateSteps", spec := "escalateSteps", unfollowed := true, recurses := true, apart := false, narrowed := true }
def EscalateStepsUptoSaid : Prop := escalateStepsUptoRow.holds Tryz.pinned (OpenSpec.upto escalateStepsSpec)

/-- 'pagewatchlaw29.EscalateEnds', WHERE WHAT IT READS IS OF BULK AT MOST 1048576: true; the input reads as it did. -/
def escalateEndsUptoRow : OpenClaim := { program := "ytfhcigjkfelnfaagreat", sum := "50dbccaa625d3b58c466afb2d612a25afb0c212c4e9224c26d2d78af26895bb0", func := "pagewatch/pagewatchlaw29.EscalateEnds", spec := "escalateEnds", unfollowed := true, recurses := true, apart := false, narrowed := true }
def EscalateEndsUptoSaid : Prop := escalateEndsUptoRow.holds Tryz.pinned (OpenSpec.upto escalateEndsSpec)

end Rows
end Go.Proofs.YtfhcigjkfelnfaaGreat
