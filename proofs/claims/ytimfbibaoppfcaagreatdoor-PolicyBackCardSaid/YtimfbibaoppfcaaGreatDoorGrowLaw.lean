/-
  Package policy, plain laws: another wait of one step, one more round.
-/
import Derived.Test.YtimfbibaoppfcaaGreatDoorPolLaw
set_option linter.unusedSimpArgs false
set_option linter.unusedVariables false
namespace Go.Proofs.YtimfbibaoppfcaaGreatDoor
open Go AM
theorem policies_all {L : List Int} {nT : Nat} {Q : D.Policy → Prop} (hQ : ∀ k i, Q (policyP L nT k i)) : ∀ (n : Nat) (ts : List D.Policy) (i : Nat), (∀ p ∈ ts, Q p) → (∀ p ∈ (policies L nT n ts i).1, Q p)
  | 0, ts, i, h => h
  | n + 1, ts, i, h => by
    have := policies_all (L := L) (nT := nT) hQ n (ts ++ [policyP L nT ts.length i]) (policyI L nT i) (fun p hp => by
      rcases List.mem_append.1 hp with hp | hp
      · exact h p hp
      · simp only [List.mem_singleton] at hp; rw [hp]; exact hQ _ _)
    exact this
theorem book_rep (L : List Int) (i : Nat) : ∀ p ∈ (book L i).Policies, p.Repeat ≤ 2 := by
  intro p hp
  refine policies_all (L := L) (nT := (bookT L i).1.length) (Q := fun p => p.Repeat ≤ 2) (fun k i => ?_) (1 + nextN L (bookT L i).2 3) [] (nextI L (bookT L i).2 3) (by simp) p hp
  have h3 := oneV_mem (L := L) (i := i) (l := [0, 0, 1, 2]) (by simp)
  simp only [List.mem_cons, List.not_mem_nil, or_false] at h3
  show oneV L i [0, 0, 1, 2] ≤ 2
  omega
end Go.Proofs.YtimfbibaoppfcaaGreatDoor
