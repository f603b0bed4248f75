/-
  No cell of these rows narrows 'for every input' (looked for: loops, veiled, ifaces, maps, wideKeys, modest, calm, conditions, laid).
  DERIVED. THE GIVEN ROWS OF THIS SEAT. 7 by the template 'for every input the law returns true; each argument reads behind the call as it read before'; 0 by the template 'total and deterministic' (their statements: YtgokjdfkpnkekaaGreatTotals.lean).
  GIVEN WITH THE SEED: the statements are not yours to turn. If you find one false, say at which input.
  Laid BY PROGRAM, IN A SANDBOX (cutbox-rows.mjs): the forced cells as the released guide's own fill.sh prints them over the translation e14516daab59da81… (all of the seat's roots in one cut). By AI agents, Wed Nov 11 2026. No macro, syntax, notation, axiom, sorry.
-/
import Derived.Test.YtgokjdfkpnkekaaGreatChecked
import GoSem.Claim
import GoSem.ClaimJoined
import GoSem.ClaimMapViews
import Derived.JoinedTies
import Derived.KernelRfl
namespace Go.Proofs.YtgokjdfkpnkekaaGreat
/- THE CELL 'sum', in the pinned program and in every row, IS THE sha256 OF THE DUMP (.gsa) THAT YtgokjdfkpnkekaaGreatProg.lean LOADS. Nothing in Lean hashes anything: it is a label: what it is worth is what the hold of that sum in a sandbox is worth. -/
noncomputable def Tryz.pinned : Pinned := { name := "ytgokjdfkpnkekaagreat", sum := "e14516daab59da8110e5e05ae7ae6b38992b30f356f41dd77fb09a657039cd98", checked := Tryz.checked }
namespace Rows
def none {H : Type} : Left H := { results := [], args := [] }

/-- 'pagewatchlaw31.OplogRefuses': WHATEVER THE INPUT: true; the input reads as it did. -/
def oplogRefusesSpec : ChangeSpec := { name := "oplogRefuses", fn := fun _ => fun
  | [d] => { results := [.lit (.bool true)], args := [d] }
  | _ => none }
def oplogRefusesRow : OpenClaim := { program := "ytgokjdfkpnkekaagreat", sum := "e14516daab59da8110e5e05ae7ae6b38992b30f356f41dd77fb09a657039cd98", func := "pagewatch/pagewatchlaw31.OplogRefuses", spec := "oplogRefuses", inPlace := ["slices.overlaps[pagewatch/api.Page]"], unfollowed := true, recurses := true, apart := false }
def OplogRefusesSaid : Prop := oplogRefusesRow.holds Tryz.pinned (OpenSpec.ofChange oplogRefusesSpec)

/-- ITS FALSE NEIGHBOUR: 'it returns false'. Refute it at one input. -/
def oplogRefusesWrong : ChangeSpec := { name := "oplogRefuses", fn := fun _ => fun
  | [d] => { results := [.lit (.bool false)], args := [d] }
  | _ => none }
def OplogRefusesWrongFalsely : Prop := oplogRefusesRow.holds Tryz.pinned (OpenSpec.ofChange oplogRefusesWrong)

/-- 'pagewatchlaw31.OplogKeeps': WHATEVER THE INPUT: true; the input reads as it did. -/
def oplogKeepsSpec : ChangeSpec := { name := "oplogKeeps", fn := fun _ => fun
  | [d] => { results := [.lit (.bool true)], args := [d] }
  | _ => none }
def oplogKeepsRow : OpenClaim := { program := "ytgokjdfkpnkekaagreat", sum := "e14516daab59da8110e5e05ae7ae6b38992b30f356f41dd77fb09a657039cd98", func := "pagewatch/pagewatchlaw31.OplogKeeps", spec := "oplogKeeps", inPlace := ["slices.overlaps[pagewatch/api.Page]"], unfollowed := true, recurses := true, apart := false }
def OplogKeepsSaid : Prop := oplogKeepsRow.holds Tryz.pinned (OpenSpec.ofChange oplogKeepsSpec)

/-- ITS FALSE NEIGHBOUR: 'it returns false'. Refute it at one input. -/
def oplogKeepsWrong : ChangeSpec := { name := "oplogKeeps", fn := fun _ => fun
  | [d] => { results := [.lit (.bool false)], args := [d] }
  | _ => none }
def OplogKeepsWrongFalsely : Prop := oplogKeepsRow.holds Tryz.pinned (OpenSpec.ofChange oplogKeepsWrong)

/-- 'pagewatchlaw31.OplogEdits': WHATEVER THE INPUT: true; the input reads as it did. -/
def oplogEditsSpec : ChangeSpec := { name := "oplogEdits", fn := fun _ => fun
  | [d] => { results := [.lit (.bool true)], args := [d] }
  | _ => none }
def oplogEditsRow : OpenClaim := { program := "ytgokjdfkpnkekaagreat", sum := "e14516daab59da8110e5e05ae7ae6b38992b30f356f41dd77fb09a657039cd98", func := "pagewatch/pagewatchlaw31.OplogEdits", spec := "oplogEdits", inPlace := ["slices.overlaps[pagewatch/api.Page]"], unfollowed := true, recurses := true, apart := false }
def OplogEditsSaid : Prop := oplogEditsRow.holds Tryz.pinned (OpenSpec.ofChange oplogEditsSpec)

/-- ITS FALSE NEIGHBOUR: 'it returns false'. Refute it at one input. -/
def oplogEditsWrong : ChangeSpec := { name := "oplogEdits", fn := fun _ => fun
  | [d] => { results := [.lit (.bool false)], args := [d] }
  | _ => none }
def OplogEditsWrongFalsely : Prop := oplogEditsRow.holds Tryz.pinned (OpenSpec.ofChange oplogEditsWrong)

/-- 'pagewatchlaw31.OplogReplays': WHATEVER THE INPUT: true; the input reads as it did. -/
def oplogReplaysSpec : ChangeSpec := { name := "oplogReplays", fn := fun _ => fun
  | [d1, d2] => { results := [.lit (.bool true)], args := [d1, d2] }
  | _ => none }
def oplogReplaysRow : OpenClaim := { program := "ytgokjdfkpnkekaagreat", sum := "e14516daab59da8110e5e05ae7ae6b38992b30f356f41dd77fb09a657039cd98", func := "pagewatch/pagewatchlaw31.OplogReplays", spec := "oplogReplays", inPlace := ["slices.overlaps[pagewatch/api.Page]"], unfollowed := true, recurses := true, apart := false }
def OplogReplaysSaid : Prop := oplogReplaysRow.holds Tryz.pinned (OpenSpec.ofChange oplogReplaysSpec)

/-- ITS FALSE NEIGHBOUR: 'it returns false'. Refute it at one input. -/
def oplogReplaysWrong : ChangeSpec := { name := "oplogReplays", fn := fun _ => fun
  | [d1, d2] => { results := [.lit (.bool false)], args := [d1, d2] }
  | _ => none }
def OplogReplaysWrongFalsely : Prop := oplogReplaysRow.holds Tryz.pinned (OpenSpec.ofChange oplogReplaysWrong)

/-- 'pagewatchlaw31.OplogOwners': WHATEVER THE INPUT: true; the input reads as it did. -/
def oplogOwnersSpec : ChangeSpec := { name := "oplogOwners", fn := fun _ => fun
  | [d] => { results := [.lit (.bool true)], args := [d] }
  | _ => none }
def oplogOwnersRow : OpenClaim := { program := "ytgokjdfkpnkekaagreat", sum := "e14516daab59da8110e5e05ae7ae6b38992b30f356f41dd77fb09a657039cd98", func := "pagewatch/pagewatchlaw31.OplogOwners", spec := "oplogOwners", inPlace := ["slices.overlaps[pagewatch/api.Page]"], unfollowed := true, recurses := true, apart := false }
def OplogOwnersSaid : Prop := oplogOwnersRow.holds Tryz.pinned (OpenSpec.ofChange oplogOwnersSpec)

/-- ITS FALSE NEIGHBOUR: 'it returns false'. Refute it at one input. -/
def oplogOwnersWrong : ChangeSpec := { name := "oplogOwners", fn := fun _ => fun
  | [d] => { results := [.lit (.bool false)], args := [d] }
  | _ => none }
def OplogOwnersWrongFalsely : Prop := oplogOwnersRow.holds Tryz.pinned (OpenSpec.ofChange oplogOwnersWrong)

/-- 'pagewatchlaw31.OplogApart': WHATEVER THE INPUT: true; the input reads as it did. -/
def oplogApartSpec : ChangeSpec := { name := "oplogApart", fn := fun _ => fun
  | [d] => { results := [.lit (.bool true)], args := [d] }
  | _ => none }
def oplogApartRow : OpenClaim := { program := "ytgokjdfkpnkekaagreat", sum := "e14516daab59da8110e5e05ae7ae6b38992b30f356f41dd77fb09a657039cd98", func := "pagewatch/pagewatchlaw31.OplogApart", spec := "oplogApart", inPlace := ["slices.overlaps[pagewatch/api.Page]"], unfollowed := true, recurses := true, apart := false }
def OplogApartSaid : Prop := oplogApartRow.holds Tryz.pinned (OpenSpec.ofChange oplogApartSpec)

/-- ITS FALSE NEIGHBOUR: 'it returns false'. Refute it at one input. -/
def oplogApartWrong : ChangeSpec := { name := "oplogApart", fn := fun _ => fun
  | [d] => { results := [.lit (.bool false)], args := [d] }
  | _ => none }
def OplogApartWrongFalsely : Prop := oplogApartRow.holds Tryz.pinned (OpenSpec.ofChange oplogApartWrong)

/-- 'pagewatchlaw31.OplogWaits': WHATEVER THE INPUT: true; the input reads as it did. -/
def oplogWaitsSpec : ChangeSpec := { name := "oplogWaits", fn := fun _ => fun
  | [d1, d2] => { results := [.lit (.bool true)], args := [d1, d2] }
  | _ => none }
def oplogWaitsRow : OpenClaim := { program := "ytgokjdfkpnkekaagreat", sum := "e14516daab59da8110e5e05ae7ae6b38992b30f356f41dd77fb09a657039cd98", func := "pagewatch/pagewatchlaw31.OplogWaits", spec := "oplogWaits", inPlace := ["slices.overlaps[pagewatch/api.Page]"], unfollowed := true, recurses := true, apart := false }
def OplogWaitsSaid : Prop := oplogWaitsRow.holds Tryz.pinned (OpenSpec.ofChange oplogWaitsSpec)

/-- ITS FALSE NEIGHBOUR: 'it returns false'. Refute it at one input. -/
def oplogWaitsWrong : ChangeSpec := { name := "oplogWaits", fn := fun _ => fun
  | [d1, d2] => { results := [.lit (.bool false)], args := [d1, d2] }
  | _ => none }
def OplogWaitsWrongFalsely : Prop := oplogWaitsRow.holds Tryz.pinned (OpenSpec.ofChange oplogWaitsWrong)

/- THE SECOND FORM. 'bulk': how many values and letters a reading holds, each counted each time it is reached (what is shared counts as often as it is met; a slice's spare places count too). A statement '..UptoSaid' is the law's where the arguments, and the package variables that the reading takes, are together of bulk at most 1048576: NARROWER than '..Said'. Prove '..Said' where nothing that the law and all that it calls make is longer than what came in: it says more and counts as full. Else prove '..UptoSaid'. A law counts once. -/
mutual
def uptoBulk {H : Type} : DataW H → Nat
  | .lit (.string bytes) => bytes.length + 1
  | .lit _ => 1
  | .nil => 1
  | .ptr d => uptoBulk d + 1
  | .slice elems spare => uptoBulkAll elems + uptoBulkAll spare + 1
  | .agg parts => uptoBulkAll parts + 1
  | .iface _ d => uptoBulk d + 1
  | .map entries => uptoBulkEntries entries + 1
  | .held _ => 1
def uptoBulkAll {H : Type} : List (DataW H) → Nat
  | [] => 0
  | d :: r => uptoBulk d + uptoBulkAll r
def uptoBulkEntries {H : Type} : List (Lit × DataW H) → Nat
  | [] => 0
  | x :: r => uptoBulkEntry x + uptoBulkEntries r
def uptoBulkEntry {H : Type} : Lit × DataW H → Nat
  | (.string bytes, d) => bytes.length + uptoBulk d + 1
  | (_, d) => uptoBulk d + 1
 end
def uptoSmall : (H : Type) → List (DataW H) → Bool := fun _ ds => decide (uptoBulkAll ds ≤ 1048576)
def OpenSpec.upto (s : _root_.Go.ChangeSpec) : _root_.Go.OpenSpec := { _root_.Go.OpenSpec.ofChange s with cond := some uptoSmall }

/-- 'pagewatchlaw31.OplogRefuses', WHERE WHAT IT READS IS OF BULK AT MOST 1048576: true; the input reads as it did. -/
def oplogRefusesUptoRow : OpenClaim := { program := "ytgokjdfkpnkekaagreat", sum := "e14516daab59da8110e5e05ae7ae6b38992b30f356f41dd77fb09a657039cd98", func := "pagewatch/pagewatchlaw31.OplogRefuses", spec := "oplogRefuses", inPlace := ["slices.overlaps[pagewatch/api.Page]"], unfollowed := true, recurses := true, apart := false, narrowed := true }
def OplogRefusesUptoSaid : Prop := oplogRefusesUptoRow.holds Tryz.pinned (OpenSpec.upto oplogRefusesSpec)

/-- 'pagewatchlaw31.OplogKeeps', WHERE WHAT IT READS IS OF BULK AT MOST 1048576: true; the input reads as it did. -/
def oplogKeepsUptoRow : OpenClaim := { program := "ytgokjdfkpnkekaagreat", sum := "e14516daab59da8110e5e05ae7ae6b38992b30f356f41dd77fb09a657039cd98", func := "pagewatch/pagewatchlaw31.OplogKeeps", spec := "oplogKeeps", inPlace := ["slices.overlaps[pagewatch/api.Page]"], unfollowed := true, recurses := true, apart := false, narrowed := true }
def OplogKeepsUptoSaid : Prop := oplogKeepsUptoRow.holds Tryz.pinned (OpenSpec.upto oplogKeepsSpec)

/-- 'pagewatchlaw31.OplogEdits', WHERE WHAT IT READS IS OF BULK AT MOST 1048576: true; the input reads as it did. -/
def oplogEditsUptoRow : OpenClaim := { program := "ytgokjdfkpnkekaagreat", sum := "e14516daab59da8110e5e05ae7ae6b38992b30f356f41dd77fb09a657039cd98", func := "pagewatch/pagewatchlaw31.OplogEdits", spec := "oplogEdits", inPlace := ["slices.overlaps[pagewatch/api.Page]"], unfollowed := true, recurses := true, apart := false, narrowed := true }
def OplogEditsUptoSaid : Prop := oplogEditsUptoRow.holds Tryz.pinned (OpenSpec.upto oplogEditsSpec)

/-- 'pagewatchlaw31.OplogReplays', WHERE WHAT IT READS IS OF BULK AT MOST 1048576: true; the input reads as it did. -/
def oplogReplaysUptoRow : OpenClaim := { program := "ytgokjdfkpnkekaagreat", sum := "e14516daab59da8110e5e05ae7ae6b38992b30f356f41dd77fb09a657039cd98", func := "pagewatch/pagewatchlaw31.OplogReplays", spec := "oplogReplays", inPlace := ["slices.overlaps[pagewatch/api.Page]"], unfollowed := true, recurses := true, apart := false, narrowed := true }
def OplogReplaysUptoSaid : Prop := oplogReplaysUptoRow.holds Tryz.pinned (OpenSpec.upto oplogReplaysSpec)

/-- 'pagewatchlaw31.OplogOwners', WHERE WHAT IT READS IS OF BULK AT MOST 1048576: true; the input reads as it did. -/
def oplogOwnersUptoRow : OpenClaim := { program := "ytgokjdfkpnkekaagreat", sum := "e14516daab59da8110e5e05ae7ae6b38992b30f356f41dd77fb09a657039cd98", func := "pagewatch/pagewatchlaw31.OplogOwners", spec := "oplogOwners", inPlace := ["slices.overlaps[pagewatch/api.Page]"], unfollowed := true, recurses := true, apart := false, narrowed := true }
def OplogOwnersUptoSaid : Prop := oplogOwnersUptoRow.holds Tryz.pinned (OpenSpec.upto oplogOwnersSpec)

/-- 'pagewatchlaw31.OplogApart', WHERE WHAT IT READS IS OF BULK AT MOST 1048576: true; the input reads as it did. -/
def oplogApartUptoRow : OpenClaim := { program := "ytgokjdfkpnkekaagreat", sum := "e14516daab59da8110e5e05ae7ae6b38992b30f356f41dd77fb09a657039cd98", func := "pagewatch/pagewatchlaw31.OplogApart", spec := "oplogApart", inPlace := ["slices.overlaps[pagewatch/api.Page]"], unfollowed := true, recurses := true, apart := false, narrowed := true }
def OplogApartUptoSaid : Prop := oplogApartUptoRow.holds Tryz.pinned (OpenSpec.upto oplogApartSpec)

/-- 'pagewatchlaw31.OplogWaits', WHERE WHAT IT READS IS OF BULK AT MOST 1048576: true; the input reads as it did. -/
def oplogWaitsUptoRow : OpenClaim := { program := "ytgokjdfkpnkekaagreat", sum := "e14516daab59da8110e5e05ae7ae6b38992b30f356f41dd77fb09a657039cd98", func := "pagewatch/pagewatchlaw31.OplogWaits", spec := "oplogWaits", inPlace := ["slices.overlaps[pagewatch/api.Page]"], unfollowed := true, recurses := true, apart := false, narrowed := true }
def OplogWaitsUptoSaid : Prop := oplogWaitsUptoRow.holds Tryz.pinned (OpenSpec.upto oplogWaitsSpec)

end Rows
end Go.Proofs.YtgokjdfkpnkekaaGreat
