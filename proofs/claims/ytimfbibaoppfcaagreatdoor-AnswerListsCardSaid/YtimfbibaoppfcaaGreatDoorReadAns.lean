/-
  The structs that arguments are read as. Printed by wip/gen/row.py.
-/
import Derived.Test.YtimfbibaoppfcaaGreatDoorRead
import Derived.Test.YtimfbibaoppfcaaGreatDoorAnsPlain
set_option linter.unusedVariables false
namespace Go.Proofs.YtimfbibaoppfcaaGreatDoor
open Go AM
def OkAnswer (x : D.Answer) : Prop := ((Lit.int .i64 x.ID).wf = true) ∧ ((Lit.int .i64 x.Page).wf = true) ∧ ((Lit.int .i64 x.Person).wf = true) ∧ ((Lit.int .i64 x.Kind).wf = true) ∧ ((Lit.int .i64 x.Arg).wf = true) ∧ ((Lit.int .i64 x.At).wf = true)
theorem reads_Answer {H : Type} {enc : TypeId × Value → H} {w : World} : Reads enc Tryz.prog w 39 D.Answer.cells OkAnswer := by
  intro fuel cs x h
  obtain ⟨hl, hf⟩ := struct_reads (l := [(0, 3), (1, 3), (2, 3), (3, 3), (4, 3), (5, 3)]) (by kernel_rfl) h
  obtain ⟨m0, y0, h0⟩ := hf 0 _ _ rfl
  obtain ⟨a0, k0, r0⟩ := (reads_int (k := .i64) (by kernel_rfl)) _ _ _ h0
  rw [show Tryz.prog.cellsOf 3 = 1 by kernel_rfl] at r0
  obtain ⟨m1, y1, h1⟩ := hf 1 _ _ rfl
  obtain ⟨a1, k1, r1⟩ := (reads_int (k := .i64) (by kernel_rfl)) _ _ _ h1
  rw [show Tryz.prog.cellsOf 3 = 1 by kernel_rfl] at r1
  obtain ⟨m2, y2, h2⟩ := hf 2 _ _ rfl
  obtain ⟨a2, k2, r2⟩ := (reads_int (k := .i64) (by kernel_rfl)) _ _ _ h2
  rw [show Tryz.prog.cellsOf 3 = 1 by kernel_rfl] at r2
  obtain ⟨m3, y3, h3⟩ := hf 3 _ _ rfl
  obtain ⟨a3, k3, r3⟩ := (reads_int (k := .i64) (by kernel_rfl)) _ _ _ h3
  rw [show Tryz.prog.cellsOf 3 = 1 by kernel_rfl] at r3
  obtain ⟨m4, y4, h4⟩ := hf 4 _ _ rfl
  obtain ⟨a4, k4, r4⟩ := (reads_int (k := .i64) (by kernel_rfl)) _ _ _ h4
  rw [show Tryz.prog.cellsOf 3 = 1 by kernel_rfl] at r4
  obtain ⟨m5, y5, h5⟩ := hf 5 _ _ rfl
  obtain ⟨a5, k5, r5⟩ := (reads_int (k := .i64) (by kernel_rfl)) _ _ _ h5
  rw [show Tryz.prog.cellsOf 3 = 1 by kernel_rfl] at r5
  refine ⟨⟨a0, a1, a2, a3, a4, a5⟩, ⟨k0, k1, k2, k3, k4, k5⟩, ?_⟩
  have := (PVs.part (k := 0) (n := 1) r0 (PVs.part (k := 1) (n := 1) r1 (PVs.part (k := 2) (n := 1) r2 (PVs.part (k := 3) (n := 1) r3 (PVs.part (k := 4) (n := 1) r4 (PVs.part (k := 5) (n := 1) r5 (PVs.done (k := 6) (by rw [hl]; kernel_rfl))))))))
  rw [List.drop_zero] at this
  exact this
end Go.Proofs.YtimfbibaoppfcaaGreatDoor
