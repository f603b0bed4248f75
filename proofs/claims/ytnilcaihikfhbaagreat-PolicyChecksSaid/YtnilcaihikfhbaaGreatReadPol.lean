/-
  The structs that arguments are read as. Printed by wip/gen/row.py.
-/
import Derived.Test.YtnilcaihikfhbaaGreatRead
import Derived.Test.YtnilcaihikfhbaaGreatPolData
import Derived.Test.YtnilcaihikfhbaaGreatRows
set_option linter.unusedVariables false
namespace Go.Proofs.YtnilcaihikfhbaaGreat
open Go AM
def OkTarget (x : D.Target) : Prop := ((Lit.int .i64 x.Kind).wf = true) ∧ ((Lit.int .i64 x.Index).wf = true)
theorem reads_Target {H : Type} {enc : TypeId × Value → H} {w : World} : Reads enc Tryz.prog w 47 D.Target.cells OkTarget := by
  intro fuel cs x h
  obtain ⟨hl, hf⟩ := struct_reads (l := [(0, 3), (1, 3)]) (by kernel_rfl) h
  obtain ⟨m0, y0, h0⟩ := hf 0 _ _ rfl
  obtain ⟨a0, k0, r0⟩ := (reads_int (k := .i64) (by kernel_rfl)) _ _ _ h0
  rw [show Tryz.prog.cellsOf 3 = 1 by kernel_rfl] at r0
  obtain ⟨m1, y1, h1⟩ := hf 1 _ _ rfl
  obtain ⟨a1, k1, r1⟩ := (reads_int (k := .i64) (by kernel_rfl)) _ _ _ h1
  rw [show Tryz.prog.cellsOf 3 = 1 by kernel_rfl] at r1
  refine ⟨⟨a0, a1⟩, ⟨k0, k1⟩, ?_⟩
  have := (PVs.part (k := 0) (n := 1) r0 (PVs.part (k := 1) (n := 1) r1 (PVs.done (k := 2) (by rw [hl]; kernel_rfl))))
  rw [List.drop_zero] at this
  exact this
def OkPolicyStep (x : D.PolicyStep) : Prop := ((Lit.int .i64 x.Wait).wf = true) ∧ (True) ∧ ((∀ (i : Nat) (a : D.Target), x.Targets[i]? = some a → OkTarget a) ∧ x.Targets.length ≤ maxLen)
theorem reads_PolicyStep {H : Type} {enc : TypeId × Value → H} {w : World} : Reads enc Tryz.prog w 56 D.PolicyStep.cells OkPolicyStep := by
  intro fuel cs x h
  obtain ⟨hl, hf⟩ := struct_reads (l := [(0, 3), (1, 4), (2, 45)]) (by kernel_rfl) h
  obtain ⟨m0, y0, h0⟩ := hf 0 _ _ rfl
  obtain ⟨a0, k0, r0⟩ := (reads_int (k := .i64) (by kernel_rfl)) _ _ _ h0
  rw [show Tryz.prog.cellsOf 3 = 1 by kernel_rfl] at r0
  obtain ⟨m1, y1, h1⟩ := hf 1 _ _ rfl
  obtain ⟨a1, k1, r1⟩ := (reads_bool (by kernel_rfl)) _ _ _ h1
  rw [show Tryz.prog.cellsOf 4 = 1 by kernel_rfl] at r1
  obtain ⟨m2, y2, h2⟩ := hf 2 _ _ rfl
  obtain ⟨a2, k2, r2⟩ := (reads_slice (e := 47) (n := 2) (by kernel_rfl) (by kernel_rfl) (by decide) (fun _ => rfl) reads_Target) _ _ _ h2
  rw [show Tryz.prog.cellsOf 45 = 1 by kernel_rfl] at r2
  refine ⟨⟨a0, a1, a2⟩, ⟨k0, k1, k2⟩, ?_⟩
  have := (PVs.part (k := 0) (n := 1) r0 (PVs.part (k := 1) (n := 1) r1 (PVs.part (k := 2) (n := 1) r2 (PVs.done (k := 3) (by rw [hl]; kernel_rfl)))))
  rw [List.drop_zero] at this
  exact this
def OkPolicy (x : D.Policy) : Prop := (x.Name.size ≤ maxLen) ∧ ((∀ (i : Nat) (a : D.PolicyStep), x.Steps[i]? = some a → OkPolicyStep a) ∧ x.Steps.length ≤ maxLen) ∧ ((Lit.int .i64 x.Repeat).wf = true)
theorem reads_Policy {H : Type} {enc : TypeId × Value → H} {w : World} : Reads enc Tryz.prog w 59 D.Policy.cells OkPolicy := by
  intro fuel cs x h
  obtain ⟨hl, hf⟩ := struct_reads (l := [(0, 9), (1, 57), (2, 3)]) (by kernel_rfl) h
  obtain ⟨m0, y0, h0⟩ := hf 0 _ _ rfl
  obtain ⟨a0, k0, r0⟩ := (reads_str (by kernel_rfl)) _ _ _ h0
  rw [show Tryz.prog.cellsOf 9 = 1 by kernel_rfl] at r0
  obtain ⟨m1, y1, h1⟩ := hf 1 _ _ rfl
  obtain ⟨a1, k1, r1⟩ := (reads_slice (e := 56) (n := 3) (by kernel_rfl) (by kernel_rfl) (by decide) (fun _ => rfl) reads_PolicyStep) _ _ _ h1
  rw [show Tryz.prog.cellsOf 57 = 1 by kernel_rfl] at r1
  obtain ⟨m2, y2, h2⟩ := hf 2 _ _ rfl
  obtain ⟨a2, k2, r2⟩ := (reads_int (k := .i64) (by kernel_rfl)) _ _ _ h2
  rw [show Tryz.prog.cellsOf 3 = 1 by kernel_rfl] at r2
  refine ⟨⟨a0, a1, a2⟩, ⟨k0, k1, k2⟩, ?_⟩
  have := (PVs.part (k := 0) (n := 1) r0 (PVs.part (k := 1) (n := 1) r1 (PVs.part (k := 2) (n := 1) r2 (PVs.done (k := 3) (by rw [hl]; kernel_rfl)))))
  rw [List.drop_zero] at this
  exact this
def OkTeam (x : D.Team) : Prop := (x.Name.size ≤ maxLen) ∧ ((∀ (i : Nat) (a : Int), x.Members[i]? = some a → (Lit.int .i64 a).wf = true) ∧ x.Members.length ≤ maxLen)
theorem reads_Team {H : Type} {enc : TypeId × Value → H} {w : World} : Reads enc Tryz.prog w 54 D.Team.cells OkTeam := by
  intro fuel cs x h
  obtain ⟨hl, hf⟩ := struct_reads (l := [(0, 9), (1, 22)]) (by kernel_rfl) h
  obtain ⟨m0, y0, h0⟩ := hf 0 _ _ rfl
  obtain ⟨a0, k0, r0⟩ := (reads_str (by kernel_rfl)) _ _ _ h0
  rw [show Tryz.prog.cellsOf 9 = 1 by kernel_rfl] at r0
  obtain ⟨m1, y1, h1⟩ := hf 1 _ _ rfl
  obtain ⟨a1, k1, r1⟩ := (reads_slice (e := 3) (n := 1) (by kernel_rfl) (by kernel_rfl) (by decide) (fun _ => rfl) (reads_int (k := .i64) (by kernel_rfl))) _ _ _ h1
  rw [show Tryz.prog.cellsOf 22 = 1 by kernel_rfl] at r1
  refine ⟨⟨a0, a1⟩, ⟨k0, k1⟩, ?_⟩
  have := (PVs.part (k := 0) (n := 1) r0 (PVs.part (k := 1) (n := 1) r1 (PVs.done (k := 2) (by rw [hl]; kernel_rfl))))
  rw [List.drop_zero] at this
  exact this
def OkBook (x : D.Book) : Prop := ((∀ (i : Nat) (a : D.Team), x.Teams[i]? = some a → OkTeam a) ∧ x.Teams.length ≤ maxLen) ∧ ((∀ (i : Nat) (a : D.Policy), x.Policies[i]? = some a → OkPolicy a) ∧ x.Policies.length ≤ maxLen)
theorem reads_Book {H : Type} {enc : TypeId × Value → H} {w : World} : Reads enc Tryz.prog w 26 D.Book.cells OkBook := by
  intro fuel cs x h
  obtain ⟨hl, hf⟩ := struct_reads (l := [(0, 23), (1, 24)]) (by kernel_rfl) h
  obtain ⟨m0, y0, h0⟩ := hf 0 _ _ rfl
  obtain ⟨a0, k0, r0⟩ := (reads_slice (e := 54) (n := 2) (by kernel_rfl) (by kernel_rfl) (by decide) (fun _ => rfl) reads_Team) _ _ _ h0
  rw [show Tryz.prog.cellsOf 23 = 1 by kernel_rfl] at r0
  obtain ⟨m1, y1, h1⟩ := hf 1 _ _ rfl
  obtain ⟨a1, k1, r1⟩ := (reads_slice (e := 59) (n := 3) (by kernel_rfl) (by kernel_rfl) (by decide) (fun _ => rfl) reads_Policy) _ _ _ h1
  rw [show Tryz.prog.cellsOf 24 = 1 by kernel_rfl] at r1
  refine ⟨⟨a0, a1⟩, ⟨k0, k1⟩, ?_⟩
  have := (PVs.part (k := 0) (n := 1) r0 (PVs.part (k := 1) (n := 1) r1 (PVs.done (k := 2) (by rw [hl]; kernel_rfl))))
  rw [List.drop_zero] at this
  exact this
end Go.Proofs.YtnilcaihikfhbaaGreat
