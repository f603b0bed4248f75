/-
  Package pagewatchmade, in plain Lean: dice, targets, books.
-/
import Derived.Test.YtimfbibaoppfcaaGreatDoorPolPlain
set_option linter.unusedSimpArgs false
set_option linter.unusedVariables false
namespace Go.Proofs.YtimfbibaoppfcaaGreatDoor
open Go AM
def nextV (L : List Int) (i : Nat) (n : Int) : Int := if L.length ≤ i ∨ n < 1 then 0 else nth L i % n
def nextI (L : List Int) (i : Nat) (n : Int) : Nat := if L.length ≤ i ∨ n < 1 then i else i + 1
theorem next_end {L : List Int} {i : Nat} {n : Int} (h : L.length ≤ i ∨ n < 1) : nextV L i n = 0 ∧ nextI L i n = i := by
  unfold nextV nextI; rw [if_pos h, if_pos h]; exact ⟨rfl, rfl⟩
theorem next_pos {L : List Int} {i : Nat} {n : Int} (h1 : i < L.length) (h2 : 1 ≤ n) (h3 : ¬ (nth L i).tmod n < 0) : nextV L i n = (nth L i).tmod n ∧ nextI L i n = i + 1 := by
  unfold nextV nextI
  rw [if_neg (by omega), if_neg (by omega)]
  refine ⟨?_, rfl⟩
  rcases (show nth L i < 0 ∨ 0 ≤ nth L i by omega) with h | h
  · have h4 := Int.tmod_def (nth L i) n
    have h5 : (nth L i).tmod n = 0 := by
      have : (nth L i).tmod n ≤ 0 := by
        have e : (nth L i).tmod n = - ((-(nth L i)).tmod n) := by rw [Int.neg_tmod, Int.neg_neg]
        rw [e, Int.tmod_eq_emod_of_nonneg (by omega)]
        have := Int.emod_nonneg (-(nth L i)) (b := n) (by omega)
        omega
      omega
    rw [h5]
    exact Int.emod_eq_zero_of_dvd (Int.dvd_of_tmod_eq_zero h5)
  · exact (Int.tmod_eq_emod_of_nonneg h).symm
theorem next_neg {L : List Int} {i : Nat} {n : Int} (h1 : i < L.length) (h2 : 1 ≤ n) (h3 : (nth L i).tmod n < 0) : nextV L i n = (nth L i).tmod n + n ∧ nextI L i n = i + 1 := by
  unfold nextV nextI
  rw [if_neg (by omega), if_neg (by omega)]
  refine ⟨?_, rfl⟩
  have e : (nth L i).tmod n = - ((-(nth L i)).tmod n) := by rw [Int.neg_tmod, Int.neg_neg]
  rcases (show nth L i < 0 ∨ 0 ≤ nth L i by omega) with h | h
  · rw [Int.tmod_eq_emod_of_nonneg (show 0 ≤ -(nth L i) by omega)] at e
    rw [e] at h3 ⊢
    have h6 := Int.emod_lt_of_pos (-(nth L i)) (b := n) (by omega)
    have h7 : nth L i % n = (n - (-(nth L i)) % n) % n := by
      have : nth L i = - (-(nth L i)) := by omega
      rw [this, Int.neg_emod_eq_sub_emod, Int.neg_neg]
      rw [Int.sub_emod, Int.sub_emod n (-(nth L i) % n), Int.emod_emod]
    rw [h7, Int.emod_eq_of_lt (by omega) (by omega)]
    omega
  · exfalso
    rw [Int.tmod_eq_emod_of_nonneg h] at h3
    have := Int.emod_nonneg (nth L i) (b := n) (by omega)
    omega
theorem tmod_in {a n : Int} (hn : 1 ≤ n) : -n < a.tmod n ∧ a.tmod n < n := by
  rcases (show a < 0 ∨ 0 ≤ a by omega) with h | h
  · have e : a.tmod n = - ((-a).tmod n) := by rw [Int.neg_tmod, Int.neg_neg]
    rw [e, Int.tmod_eq_emod_of_nonneg (by omega)]
    have h1 := Int.emod_lt_of_pos (-a) (b := n) (by omega)
    have h2 := Int.emod_nonneg (-a) (b := n) (by omega)
    omega
  · rw [Int.tmod_eq_emod_of_nonneg h]
    have h1 := Int.emod_lt_of_pos a (b := n) (by omega)
    have h2 := Int.emod_nonneg a (b := n) (by omega)
    omega
theorem nextV_in (L : List Int) (i : Nat) (n : Int) : 0 ≤ nextV L i n ∧ (1 ≤ n → nextV L i n < n) ∧ (n < 1 → nextV L i n = 0) := by
  unfold nextV
  split
  · omega
  · rename_i h
    have h1 := Int.emod_lt_of_pos (nth L i) (b := n) (by omega)
    have h2 := Int.emod_nonneg (nth L i) (b := n) (by omega)
    omega
theorem nextI_le {L : List Int} {i : Nat} (n : Int) (h : i ≤ L.length) : nextI L i n ≤ L.length := by
  unfold nextI; split <;> omega
def nextN (L : List Int) (i : Nat) (n : Int) : Nat := (nextV L i n).toNat
theorem nextN_cast (L : List Int) (i : Nat) (n : Int) : ((nextN L i n : Nat) : Int) = nextV L i n := by
  have := nextV_in L i n; unfold nextN; omega
theorem nextN_lt (L : List Int) (i : Nat) (n : Int) (h : 1 ≤ n) : ((nextN L i n : Nat) : Int) < n := by
  have := nextV_in L i n; rw [nextN_cast]; omega
def oneV (L : List Int) (i : Nat) (l : List Int) : Int := nth l (nextN L i l.length)
def oneI (L : List Int) (i : Nat) (l : List Int) : Nat := nextI L i l.length
theorem oneI_le {L : List Int} {i : Nat} (l : List Int) (h : i ≤ L.length) : oneI L i l ≤ L.length := nextI_le _ h
theorem oneV_mem {L : List Int} {i : Nat} {l : List Int} (h : 1 ≤ l.length) : oneV L i l ∈ l := nth_mem (by have := nextN_lt L i l.length (by omega); omega)
def targetK (L : List Int) (i nT : Nat) : Nat := if nextN L i 3 = 2 ∧ nT = 0 then 0 else nextN L i 3
def targetN (L : List Int) (i nT : Nat) : Int := nth [4, 2, (nT : Int)] (targetK L i nT)
def target (L : List Int) (i nT : Nat) : D.Target := ⟨targetK L i nT, nextN L (nextI L i 3) (targetN L i nT)⟩
def targetI (L : List Int) (i nT : Nat) : Nat := nextI L (nextI L i 3) (targetN L i nT)
theorem targetI_le {L : List Int} {i : Nat} (nT : Nat) (h : i ≤ L.length) : targetI L i nT ≤ L.length := nextI_le _ (nextI_le _ h)
def team (L : List Int) (i k : Nat) : D.Team :=
  if nextN L (nextI L i 2) 2 = 0 then ⟨nth [ByteArray.mk #[99, 111, 114, 101], ByteArray.mk #[119, 101, 98]] k, [(nextN L i 2 : Int), ((2 + nextN L (nextI L (nextI L i 2) 2) 2 : Nat) : Int)]⟩
  else ⟨nth [ByteArray.mk #[99, 111, 114, 101], ByteArray.mk #[119, 101, 98]] k, [(nextN L i 2 : Int)]⟩
def teamI (L : List Int) (i : Nat) : Nat :=
  if nextN L (nextI L i 2) 2 = 0 then nextI L (nextI L (nextI L i 2) 2) 2 else nextI L (nextI L i 2) 2
theorem teamI_le {L : List Int} {i : Nat} (h : i ≤ L.length) : teamI L i ≤ L.length := by
  unfold teamI; split <;> (repeat apply nextI_le) <;> exact h
def teams (L : List Int) : Nat → List D.Team → Nat → List D.Team × Nat
  | 0, ts, i => (ts, i)
  | n + 1, ts, i => teams L n (ts ++ [team L i ts.length]) (teamI L i)
theorem teams_succ {L : List Int} {n : Nat} {ts : List D.Team} {i : Nat} (h : 0 < n) : teams L n ts i = teams L (n - 1) (ts ++ [team L i ts.length]) (teamI L i) := by
  obtain ⟨m, rfl⟩ : ∃ m, n = m + 1 := ⟨n - 1, by omega⟩
  rfl
def targets (L : List Int) (nT : Nat) : Nat → List D.Target → Nat → List D.Target × Nat
  | 0, ts, i => (ts, i)
  | n + 1, ts, i => targets L nT n (ts ++ [target L i nT]) (targetI L i nT)
theorem targets_succ {L : List Int} {nT n : Nat} {ts : List D.Target} {i : Nat} (h : 0 < n) : targets L nT n ts i = targets L nT (n - 1) (ts ++ [target L i nT]) (targetI L i nT) := by
  obtain ⟨m, rfl⟩ : ∃ m, n = m + 1 := ⟨n - 1, by omega⟩
  rfl
theorem targets_le {L : List Int} {nT : Nat} : ∀ (n : Nat) (ts : List D.Target) (i : Nat), i ≤ L.length → (targets L nT n ts i).2 ≤ L.length
  | 0, ts, i, h => h
  | n + 1, ts, i, h => targets_le n _ _ (targetI_le _ h)
def stepT (L : List Int) (nT i : Nat) : List D.Target × Nat := targets L nT (nextN L (nextI L (oneI L i [0, 60, 300, 600, 900]) 2) 3) [] (nextI L (nextI L (oneI L i [0, 60, 300, 600, 900]) 2) 3)
def stepP (L : List Int) (nT i : Nat) : D.PolicyStep := ⟨oneV L i [0, 60, 300, 600, 900], decide (((nextN L (oneI L i [0, 60, 300, 600, 900]) 2 : Nat) : Int) = (0 : Int)), (stepT L nT i).1⟩
def stepI (L : List Int) (nT i : Nat) : Nat := (stepT L nT i).2
theorem stepI_le {L : List Int} {nT i : Nat} (h : i ≤ L.length) : stepI L nT i ≤ L.length := targets_le _ _ _ (nextI_le _ (nextI_le _ (oneI_le _ h)))
def steps (L : List Int) (nT : Nat) : Nat → List D.PolicyStep → Nat → List D.PolicyStep × Nat
  | 0, ts, i => (ts, i)
  | n + 1, ts, i => steps L nT n (ts ++ [stepP L nT i]) (stepI L nT i)
theorem steps_succ {L : List Int} {nT n : Nat} {ts : List D.PolicyStep} {i : Nat} (h : 0 < n) : steps L nT n ts i = steps L nT (n - 1) (ts ++ [stepP L nT i]) (stepI L nT i) := by
  obtain ⟨m, rfl⟩ : ∃ m, n = m + 1 := ⟨n - 1, by omega⟩
  rfl
theorem steps_le {L : List Int} {nT : Nat} : ∀ (n : Nat) (ts : List D.PolicyStep) (i : Nat), i ≤ L.length → (steps L nT n ts i).2 ≤ L.length
  | 0, ts, i, h => h
  | n + 1, ts, i, h => steps_le n _ _ (stepI_le h)
def policyS (L : List Int) (nT i : Nat) : List D.PolicyStep × Nat := steps L nT (1 + nextN L (oneI L i [0, 0, 1, 2]) 3) [] (nextI L (oneI L i [0, 0, 1, 2]) 3)
def policyP (L : List Int) (nT k i : Nat) : D.Policy := ⟨nth [ByteArray.mk #[112], ByteArray.mk #[113], ByteArray.mk #[114]] k, (policyS L nT i).1, oneV L i [0, 0, 1, 2]⟩
def policyI (L : List Int) (nT i : Nat) : Nat := (policyS L nT i).2
theorem policyI_le {L : List Int} {nT i : Nat} (h : i ≤ L.length) : policyI L nT i ≤ L.length := steps_le _ _ _ (nextI_le _ (oneI_le _ h))
def policies (L : List Int) (nT : Nat) : Nat → List D.Policy → Nat → List D.Policy × Nat
  | 0, ts, i => (ts, i)
  | n + 1, ts, i => policies L nT n (ts ++ [policyP L nT ts.length i]) (policyI L nT i)
theorem policies_succ {L : List Int} {nT n : Nat} {ts : List D.Policy} {i : Nat} (h : 0 < n) : policies L nT n ts i = policies L nT (n - 1) (ts ++ [policyP L nT ts.length i]) (policyI L nT i) := by
  obtain ⟨m, rfl⟩ : ∃ m, n = m + 1 := ⟨n - 1, by omega⟩
  rfl
def bookT (L : List Int) (i : Nat) : List D.Team × Nat := teams L (nextN L i 3) [] (nextI L i 3)
def bookP (L : List Int) (i : Nat) : List D.Policy × Nat := policies L (bookT L i).1.length (1 + nextN L (bookT L i).2 3) [] (nextI L (bookT L i).2 3)
def book (L : List Int) (i : Nat) : D.Book := ⟨(bookT L i).1, (bookP L i).1⟩
def bookI (L : List Int) (i : Nat) : Nat := (bookP L i).2
theorem nth3_le (a : Int) (k : Nat) (h : a ≤ 100) : nth [4, 2, a] k ≤ 100 := by
  match k with
  | 0 => show (4 : Int) ≤ 100; omega
  | 1 => show (2 : Int) ≤ 100; omega
  | 2 => exact h
  | n + 3 => show (default : Int) ≤ 100; decide
theorem team_two (L : List Int) (i k : Nat) (h : ((nextN L (nextI L i 2) 2 : Nat) : Int) = (0 : Int)) :
    team L i k = ⟨nth [ByteArray.mk #[99, 111, 114, 101], ByteArray.mk #[119, 101, 98]] k, [(nextN L i 2 : Int), ((2 + nextN L (nextI L (nextI L i 2) 2) 2 : Nat) : Int)]⟩ ∧ teamI L i = nextI L (nextI L (nextI L i 2) 2) 2 := by
  have : nextN L (nextI L i 2) 2 = 0 := by omega
  unfold team teamI; rw [if_pos this, if_pos this]; exact ⟨rfl, rfl⟩
theorem team_one (L : List Int) (i k : Nat) (h : ¬ ((nextN L (nextI L i 2) 2 : Nat) : Int) = (0 : Int)) :
    team L i k = ⟨nth [ByteArray.mk #[99, 111, 114, 101], ByteArray.mk #[119, 101, 98]] k, [(nextN L i 2 : Int)]⟩ ∧ teamI L i = nextI L (nextI L i 2) 2 := by
  have : ¬ nextN L (nextI L i 2) 2 = 0 := by omega
  unfold team teamI; rw [if_neg this, if_neg this]; exact ⟨rfl, rfl⟩
end Go.Proofs.YtimfbibaoppfcaaGreatDoor
