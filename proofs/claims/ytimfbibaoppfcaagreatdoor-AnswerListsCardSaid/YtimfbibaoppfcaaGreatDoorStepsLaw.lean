/-
  PolicySteps, plain: how great the books of the dice are, changed or not.
-/
import Derived.Test.YtimfbibaoppfcaaGreatDoorOddPlain
import Derived.Test.YtimfbibaoppfcaaGreatDoorRefLaw
set_option linter.unusedSimpArgs false
set_option linter.unusedVariables false
namespace Go.Proofs.YtimfbibaoppfcaaGreatDoor
open Go AM
theorem targets_len {L : List Int} {nT : Nat} : ∀ (n : Nat) (ts : List D.Target) (i : Nat), (targets L nT n ts i).1.length = ts.length + n
  | 0, ts, i => rfl
  | n + 1, ts, i => by rw [targets, targets_len]; simp; omega
theorem stepP_targets (L : List Int) (nT i : Nat) : (stepP L nT i).Targets.length ≤ 1000 := by
  have h := nextN_lt L (nextI L (oneI L i [0, 60, 300, 600, 900]) 2) 3 (by omega)
  show (stepT L nT i).1.length ≤ 1000
  unfold stepT; rw [targets_len]; simp; omega
theorem steps_tgt {L : List Int} {nT : Nat} : ∀ (n : Nat) (ts : List D.PolicyStep) (i : Nat), (∀ s ∈ ts, s.Targets.length ≤ 1000) → ∀ s ∈ (steps L nT n ts i).1, s.Targets.length ≤ 1000
  | 0, ts, i, h => h
  | n + 1, ts, i, h => by
    refine steps_tgt (L := L) (nT := nT) n (ts ++ [stepP L nT i]) (stepI L nT i) (fun s hs => ?_)
    rcases List.mem_append.1 hs with hs | hs
    · exact h s hs
    · simp only [List.mem_singleton] at hs; rw [hs]; exact stepP_targets ..
theorem teams_len {L : List Int} : ∀ (n : Nat) (ts : List D.Team) (i : Nat), (∀ t ∈ ts, t.Members.length ≤ 1000) → (∀ t ∈ (teams L n ts i).1, t.Members.length ≤ 1000) ∧ (teams L n ts i).1.length = ts.length + n
  | 0, ts, i, h => ⟨h, rfl⟩
  | n + 1, ts, i, h => by
    have := teams_len (L := L) n (ts ++ [team L i ts.length]) (teamI L i) (fun t ht => by
      rcases List.mem_append.1 ht with ht | ht
      · exact h t ht
      · simp only [List.mem_singleton] at ht; rw [ht]; unfold team; split <;> simp)
    refine ⟨this.1, ?_⟩
    rw [teams, this.2]; simp; omega
theorem book_teams (L : List Int) (i : Nat) : (book L i).Teams.length ≤ 1000 := by
  have h := nextN_lt L i 3 (by omega)
  show (bookT L i).1.length ≤ 1000
  unfold bookT; rw [(teams_len _ _ _ (by simp)).2]; simp; omega
theorem book_members (L : List Int) (i : Nat) : ∀ t ∈ (book L i).Teams, t.Members.length ≤ 1000 := by
  show ∀ t ∈ (bookT L i).1, _
  unfold bookT; exact (teams_len _ _ _ (by simp)).1
theorem book_targets (L : List Int) (i : Nat) : ∀ p ∈ (book L i).Policies, ∀ s ∈ p.Steps, s.Targets.length ≤ 1000 := by
  refine policies_all (L := L) (nT := (bookT L i).1.length) (Q := fun p => ∀ s ∈ p.Steps, s.Targets.length ≤ 1000) (fun k i => ?_) (1 + nextN L (bookT L i).2 3) [] (nextI L (bookT L i).2 3) (by simp)
  show ∀ s ∈ (policyS L _ i).1, _
  unfold policyS; exact steps_tgt _ _ _ (by simp)
theorem oddPol_len (L : List Int) (p : D.Policy) (j c d : Nat) (h : p.Steps.length ≤ 1000) : (oddPol L p j c d).1.Steps.length ≤ 1000 := by
  unfold oddPol
  split <;> simp <;> omega
theorem odd_small {L : List Int} {i : Nat} {b : D.Book} (h : ∀ p ∈ b.Policies, p.Steps.length ≤ 1000) (hl : b.Policies.length ≤ 1000) :
    (∀ p ∈ (oddBook L i b).Policies, p.Steps.length ≤ 1000) ∧ (oddBook L i b).Policies.length ≤ 1000 := by
  unfold oddBook
  split
  · exact ⟨h, hl⟩
  · rename_i h0
    simp only
    split
    · exact ⟨h, hl⟩
    · refine ⟨fun p hp => ?_, by simpa using hl⟩
      have hk := nextN_lt L i (b.Policies.length : Int) (by omega)
      rcases List.mem_or_eq_of_mem_set hp with hp | hp
      · exact h p hp
      · rw [hp]; exact oddPol_len _ _ _ _ _ (h _ (nth_mem (by omega)))
theorem oddTs_le {L : List Int} {ts : List D.Team} {c d : Nat} (h : d ≤ L.length) : (oddTs L ts c d).2 ≤ L.length := by
  unfold oddTs
  split <;> (try split) <;> first | exact h | (repeat apply nextI_le) ; exact h
theorem oddPol_le {L : List Int} {p : D.Policy} {j c d : Nat} (h : d ≤ L.length) : (oddPol L p j c d).2 ≤ L.length := by
  unfold oddPol
  split <;> first | exact h | exact nextI_le _ h | exact nextI_le _ (nextI_le _ h) | exact oneI_le _ h
theorem oddBookI_le {L : List Int} {i : Nat} {b : D.Book} (h : i ≤ L.length) : oddBookI L i b ≤ L.length := by
  unfold oddBookI oddD
  split
  · exact h
  · simp only
    split
    · exact nextI_le _ h
    · split
      · exact oddTs_le (nextI_le _ (nextI_le _ (nextI_le _ h)))
      · exact oddPol_le (nextI_le _ (nextI_le _ (nextI_le _ h)))
end Go.Proofs.YtimfbibaoppfcaaGreatDoor
