/-
  Package pagewatchmade, in plain Lean: dice, targets, books.
-/
import Derived.Test.YtimfbibaoppfcaaGreatDoorPolPlain
set_option linter.unusedSimpArgs false
set_option linter.unusedVariables false
namespace Go.Proofs.YtimfbibaoppfcaaGreatDoor
open Go AM
def nextV (L : List Int) (i : Nat) (n : Int) : Int := if L.length ≤ i ∨ n < 1 then 0 else nth L i % n
def nextI (L : List Int) (i : Nat) (n : Int) : Nat := if L.length ≤ i ∨ n < 1 then i else i + 1
theorem next_end {L : List Int} {i : Nat} {n : Int} (h : L.length ≤ i ∨ n < 1) : nextV L i n = 0 ∧ nextI L i n = i := by
  unfold nextV nextI; rw [if_pos h, if_pos h]; exact ⟨rfl, rfl⟩
theorem next_pos {L : List Int} {i : Nat} {n : Int} (h1 : i < L.length) (h2 : 1 ≤ n) (h3 : ¬ (nth L i).tmod n < 0) : nextV L i n = (nth L i).tmod n ∧ nextI L i n = i + 1 := by
  unfold nextV nextI
  rw [if_neg (by omega), if_neg (by omega)]
  refine ⟨?_, rfl⟩
  rcases (show nth L i < 0 ∨ 0 ≤ nth L i by omega) with h | h
  · have h4 := Int.tmod_def (nth L i) n
    have h5 : (nth L i).tmod n = 0 := by
      have : (nth L i).tmod n ≤ 0 := by
        have e : (nth L i).tmod n = - ((-(nth L i)).tmod n) := by rw [Int.neg_tmod, Int.neg_neg]
        rw [e, Int.tmod_eq_emod_of_nonneg (by omega)]
        have := Int.emod_nonneg (-(nth L i)) (b := n) (by omega)
        omega
      omega
    rw [h5]
    exact Int.emod_eq_zero_of_dvd (Int.dvd_of_tmod_eq_zero h5)
  · exact (Int.tmod_eq_emod_of_nonneg h).symm
theorem next_neg {L : List Int} {i : Nat} {n : Int} (h1 : i < L.length) (h2 : 1 ≤ n) (h3 : (nth L i).tmod n < 0) : nextV L i n = (nth L i).tmod n + n ∧ nextI L i n = i + 1 := by
  unfold nextV nextI
  rw [if_neg (by omega), if_neg (by omega)]
  refine ⟨?_, rfl⟩
  have e : (nth L i).tmod n = - ((-(nth L i)).tmod n) := by rw [Int.neg_tmod, Int.neg_neg]
  rcases (show nth L i < 0 ∨ 0 ≤ nth L i by omega) with h | h
  · rw [Int.tmod_eq_emod_of_nonneg (show 0 ≤ -(nth L i) by omega)] at e
    rw [e] at h3 ⊢
    have h6 := Int.emod_lt_of_pos (-(nth L i)) (b := n) (by omega)
    have h7 : nth L i % n = (n - (-(nth L i)) % n) % n := by
      have : nth L i = - (-(nth L i)) := by omega
      rw [this, Int.neg_emod_eq_sub_emod, Int.neg_neg]
      rw [Int.sub_emod, Int.sub_emod n (-(nth L i) % n), Int.emod_emod]
    rw [h7, Int.emod_eq_of_lt (by omega) (by omega)]
    omega
  · exfalso
    rw [Int.tmod_eq_emod_of_nonneg h] at h3
    have := Int.emod_nonneg (nth L i) (b := n) (by omega)
    omega
theorem tmod_in {a n : Int} (hn : 1 ≤ n) : -n < a.tmod n ∧ a.tmod n < n := by
  rcases (show a < 0 ∨ 0 ≤ a by omega) with h | h
  · have e : a.tmod n = - ((-a).tmod n) := by rw [Int.neg_tmod, Int.neg_neg]
    rw [e, Int.tmod_eq_emod_of_nonneg (by omega)]
    have h1 := Int.emod_lt_of_pos (-a) (b := n) (by omega)
    have h2 := Int.emod_nonneg (-a) (b := n) (by omega)
    omega
  · rw [Int.tmod_eq_emod_of_nonneg h]
    have h1 := Int.emod_lt_of_pos a (b := n) (by omega)
    have h2 := Int.emod_nonneg a (b := n) (by omega)
    omega
theorem nextV_in (L : List Int) (i : Nat) (n : Int) : 0 ≤ nextV L i n ∧ (1 ≤ n → nextV L i n < n) ∧ (n < 1 → nextV L i n = 0) := by
  unfold nextV
  split
  · omega
  · rename_i h
    have h1 := Int.emod_lt_of_pos (nth L i) (b := n) (by omega)
    have h2 := Int.emod_nonneg (nth L i) (b := n) (by omega)
    omega
theorem nextI_le {L : List Int} {i : Nat} (n : Int) (h : i ≤ L.length) : nextI L i n ≤ L.length := by
  unfold nextI; split <;> omega
def nextN (L : List Int) (i : Nat) (n : Int) : Nat := (nextV L i n).toNat
theorem nextN_cast (L : List Int) (i : Nat) (n : Int) : ((nextN L i n : Nat) : Int) = nextV L i n := by
  have := nextV_in L i n; unfold nextN; omega
theorem nextN_lt (L : List Int) (i : Nat) (n : Int) (h : 1 ≤ n) : ((nextN L i n : Nat) : Int) < n := by
  have := nextV_in L i n; rw [nextN_cast]; omega
def oneV (L : List Int) (i : Nat) (l : List Int) : Int := nth l (nextN L i l.length)
def oneI (L : List Int) (i : Nat) (l : List Int) : Nat := nextI L i l.length
theorem oneI_le {L : List Int} {i : Nat} (l : List Int) (h : i ≤ L.length) : oneI L i l ≤ L.length := nextI_le _ h
theorem oneV_mem {L : List Int} {i : Nat} {l : List Int} (h : 1 ≤ l.length) : oneV L i l ∈ l := nth_mem (by have := nextN_lt L i l.length (by omega); omega)
def targetK (L : List Int) (i nT : Nat) : Nat := if nextN L i 3 = 2 ∧ nT = 0 then 0 else nextN L i 3
def targetN (L : List Int) (i nT : Nat) : Int := nth [4, 2, (nT : Int)] (targetK L i nT)
def target (L : List Int) (i nT : Nat) : D.Target := ⟨targetK L i nT, nextN L (nextI L i 3) (targetN L i nT)⟩
def targetI (L : List Int) (i nT : Nat) : Nat := nextI L (nextI L i 3) (targetN L i nT)
theorem targetI_le {L : List Int} {i : Nat} (nT : Nat) (h : i ≤ L.length) : targetI L i nT ≤ L.length := nextI_le _ (nextI_le _ h)
def teamI (L : List Int) (i : Nat) : Nat :=
  if nextN L (nextI L i 2) 2 = 0 then nextI L (nextI L (nextI L i 2) 2) 2 else nextI L (nextI L i 2) 2
theorem teamI_le {L : List Int} {i : Nat} (h : i ≤ L.length) : teamI L i ≤ L.length := by
  unfold teamI; split <;> (repeat apply nextI_le) <;> exact h
def targets (L : List Int) (nT : Nat) : Nat → List D.Target → Nat → List D.Target × Nat
  | 0, ts, i => (ts, i)
  | n + 1, ts, i => targets L nT n (ts ++ [target L i nT]) (targetI L i nT)
theorem targets_le {L : List Int} {nT : Nat} : ∀ (n : Nat) (ts : List D.Target) (i : Nat), i ≤ L.length → (targets L nT n ts i).2 ≤ L.length
  | 0, ts, i, h => h
  | n + 1, ts, i, h => targets_le n _ _ (targetI_le _ h)
def stepT (L : List Int) (nT i : Nat) : List D.Target × Nat := targets L nT (nextN L (nextI L (oneI L i [0, 60, 300, 600, 900]) 2) 3) [] (nextI L (nextI L (oneI L i [0, 60, 300, 600, 900]) 2) 3)
def stepP (L : List Int) (nT i : Nat) : D.PolicyStep := ⟨oneV L i [0, 60, 300, 600, 900], decide (((nextN L (oneI L i [0, 60, 300, 600, 900]) 2 : Nat) : Int) = (0 : Int)), (stepT L nT i).1⟩
def stepI (L : List Int) (nT i : Nat) : Nat := (stepT L nT i).2
theorem stepI_le {L : List Int} {nT i : Nat} (h : i ≤ L.length) : stepI L nT i ≤ L.length := targets_le _ _ _ (nextI_le _ (nextI_le _ (oneI_le _ h)))
def steps (L : List Int) (nT : Nat) : Nat → List D.PolicyStep → Nat → List D.PolicyStep × Nat
  | 0, ts, i => (ts, i)
  | n + 1, ts, i => steps L nT n (ts ++ [stepP L nT i]) (stepI L nT i)
theorem steps_le {L : List Int} {nT : Nat} : ∀ (n : Nat) (ts : List D.PolicyStep) (i : Nat), i ≤ L.length → (steps L nT n ts i).2 ≤ L.length
  | 0, ts, i, h => h
  | n + 1, ts, i, h => steps_le n _ _ (stepI_le h)
def policyS (L : List Int) (nT i : Nat) : List D.PolicyStep × Nat := steps L nT (1 + nextN L (oneI L i [0, 0, 1, 2]) 3) [] (nextI L (oneI L i [0, 0, 1, 2]) 3)
def policyI (L : List Int) (nT i : Nat) : Nat := (policyS L nT i).2
theorem policyI_le {L : List Int} {nT i : Nat} (h : i ≤ L.length) : policyI L nT i ≤ L.length := steps_le _ _ _ (nextI_le _ (oneI_le _ h))
end Go.Proofs.YtimfbibaoppfcaaGreatDoor
