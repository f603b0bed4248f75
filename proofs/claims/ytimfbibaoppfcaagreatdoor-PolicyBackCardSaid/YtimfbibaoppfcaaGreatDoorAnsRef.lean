/-
  Answers as the reference reads and writes them, in plain Lean: numerals, words; the same as the program's. No project text.
-/
import Derived.Test.YtimfbibaoppfcaaGreatDoorAnsPlain
import Derived.Test.YtimfbibaoppfcaaGreatDoorTextPlain
set_option linter.unusedSimpArgs false
set_option linter.unusedVariables false
namespace Go.Proofs.YtimfbibaoppfcaaGreatDoor
open Go AM
theorem itoaB_nat (u : Nat) : itoaB (u : Int) = mkB (Lib.decDigits u) := by unfold itoaB mkB; rw [itoa_nat]
theorem splitS_is (s : ByteArray) : splitS s = splB 32 s := splitB_one 32 s
theorem atoi_of {s : ByteArray} {u : Nat} (h : unB s = Lib.decDigits u) (hu : u < 9223372036854775808) : atoiK s = true ∧ atoiV s = (u : Int) := by
  have e : Lib.atoiAll s.data.toList = .ok (u : Int) := by
    have := atoi_dec hu
    rw [← h] at this; exact this
  exact ⟨by simp [atoiK, e], by simp [atoiV, e]⟩
theorem findP_spec : ∀ (ps : List D.Person) (t : ByteArray), (∀ j, j < findP ps t → (nth ps j).Name ≠ t) ∧ (findP ps t < ps.length → (nth ps (findP ps t)).Name = t)
  | [], t => ⟨fun j hj => by simp [findP] at hj, fun h => by simp [findP] at h⟩
  | p :: r, t => by
    have ih := findP_spec r t
    by_cases h : p.Name = t
    · have e : findP (p :: r) t = 0 := by unfold findP; rw [if_pos h]
      rw [e]; exact ⟨fun j hj => by omega, fun _ => h⟩
    · have e : findP (p :: r) t = findP r t + 1 := by conv => lhs; unfold findP
                                                      rw [if_neg h]
      rw [e]
      refine ⟨fun j hj => ?_, fun hl => ?_⟩
      · cases j with
        | zero => exact h
        | succ j => exact ih.1 j (by omega)
      · exact ih.2 (by simpa using hl)
theorem CfgOK.nmd {c : D.Config} (h : CfgOK c) {i j : Nat} (hi : i < 4) (hj : j < 4) (e : (nth c.People i).Name = (nth c.People j).Name) : i = j := by
  have key : ∀ i, i < 4 → crewNames[i]? = some (nth c.People i).Name := fun i hi => by
    have hi' : i < c.People.length := by rw [h.plen]; exact hi
    have h1 : c.People[i]? = some (nth c.People i) := by simp [nth, List.getD_eq_getElem?_getD, List.getElem?_eq_getElem hi']
    have h2 : (c.People.map (·.Name))[i]? = some (nth c.People i).Name := by rw [List.getElem?_map, h1]; rfl
    rwa [h.pname] at h2
  have h1 := key i hi
  have h2 := key j hj
  rw [e, ← h2] at h1
  have hl : crewNames.length = 4 := rfl
  have hi4 : i = 0 ∨ i = 1 ∨ i = 2 ∨ i = 3 := by omega
  have hj4 : j = 0 ∨ j = 1 ∨ j = 2 ∨ j = 3 := by omega
  rcases hi4 with rfl | rfl | rfl | rfl <;> rcases hj4 with rfl | rfl | rfl | rfl <;> first | rfl | (exfalso; revert h1; decide)
end Go.Proofs.YtimfbibaoppfcaaGreatDoor
