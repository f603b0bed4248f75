/-
  Package policy, plain laws: offsets of good policies; the books that dice make are good.
-/
import Derived.Test.YtimfbibaoppfcaaGreatDoorMadePlain
set_option linter.unusedSimpArgs false
set_option linter.unusedVariables false
namespace Go.Proofs.YtimfbibaoppfcaaGreatDoor
open Go AM
structure Good (p : D.Policy) : Prop where
  waits : waitsOK p = true
  len1 : 1 ≤ p.Steps.length
  len8 : p.Steps.length ≤ 8
  rep0 : 0 ≤ p.Repeat
  rep8 : p.Repeat ≤ 8
theorem stepP_wait (L : List Int) (nT i : Nat) : inB (stepP L nT i).Wait 0 86400 = true := by
  have := oneV_mem (L := L) (i := i) (l := [0, 60, 300, 600, 900]) (by simp)
  have h2 : (stepP L nT i).Wait = oneV L i [0, 60, 300, 600, 900] := rfl
  simp only [List.mem_cons, List.not_mem_nil, or_false] at this
  rw [h2]
  simp only [inB, Bool.and_eq_true, decide_eq_true_eq]
  omega
theorem steps_all {L : List Int} {nT : Nat} : ∀ (n : Nat) (ts : List D.PolicyStep) (i : Nat), (ts.all fun s => inB s.Wait 0 86400) = true → ((steps L nT n ts i).1.all fun s => inB s.Wait 0 86400) = true ∧ (steps L nT n ts i).1.length = ts.length + n
  | 0, ts, i, h => ⟨h, rfl⟩
  | n + 1, ts, i, h => by
    have := steps_all (L := L) (nT := nT) n (ts ++ [stepP L nT i]) (stepI L nT i) (by simp only [List.all_append, h, List.all_cons, stepP_wait, List.all_nil]; rfl)
    refine ⟨this.1, ?_⟩
    rw [steps]
    rw [this.2]; simp; omega
theorem policyP_good (L : List Int) (nT k i : Nat) : Good (policyP L nT k i) := by
  have h1 := steps_all (L := L) (nT := nT) (1 + nextN L (oneI L i [0, 0, 1, 2]) 3) [] (nextI L (oneI L i [0, 0, 1, 2]) 3) rfl
  have h2 := nextN_lt L (oneI L i [0, 0, 1, 2]) 3 (by omega)
  have h3 := oneV_mem (L := L) (i := i) (l := [0, 0, 1, 2]) (by simp)
  simp only [List.mem_cons, List.not_mem_nil, or_false] at h3
  have hl : (policyP L nT k i).Steps.length = 1 + nextN L (oneI L i [0, 0, 1, 2]) 3 := by
    show (policyS L nT i).1.length = _
    unfold policyS; rw [h1.2]; simp
  refine ⟨h1.1, by omega, by omega, ?_, ?_⟩
  · show 0 ≤ oneV L i [0, 0, 1, 2]; omega
  · show oneV L i [0, 0, 1, 2] ≤ 8; omega
theorem policies_good {L : List Int} {nT : Nat} : ∀ (n : Nat) (ts : List D.Policy) (i : Nat), (∀ p ∈ ts, Good p) → (∀ p ∈ (policies L nT n ts i).1, Good p) ∧ (policies L nT n ts i).1.length = ts.length + n
  | 0, ts, i, h => ⟨h, rfl⟩
  | n + 1, ts, i, h => by
    have := policies_good (L := L) (nT := nT) n (ts ++ [policyP L nT ts.length i]) (policyI L nT i) (fun p hp => by
      rcases List.mem_append.1 hp with hp | hp
      · exact h p hp
      · simp only [List.mem_singleton] at hp; rw [hp]; exact policyP_good ..)
    refine ⟨this.1, ?_⟩
    rw [policies, this.2]; simp; omega
theorem book_good (L : List Int) (i : Nat) : (∀ p ∈ (book L i).Policies, Good p) ∧ 1 ≤ (book L i).Policies.length ∧ (book L i).Policies.length ≤ 3 := by
  have h1 := policies_good (L := L) (nT := (bookT L i).1.length) (1 + nextN L (bookT L i).2 3) [] (nextI L (bookT L i).2 3) (by simp)
  have h2 := nextN_lt L (bookT L i).2 3 (by omega)
  have hl : (book L i).Policies.length = 1 + nextN L (bookT L i).2 3 := by
    show (bookP L i).1.length = _
    unfold bookP; rw [h1.2]; simp
  exact ⟨h1.1, by omega, by omega⟩
end Go.Proofs.YtimfbibaoppfcaaGreatDoor
