/-
  The errors of books and of configurations, in plain Lean.
-/
import Derived.Test.YtimfbibaoppfcaaGreatDoorCrewPlain
import Derived.Test.YtimfbibaoppfcaaGreatDoorStepsLaw
set_option linter.unusedSimpArgs false
set_option linter.unusedVariables false
namespace Go.Proofs.YtimfbibaoppfcaaGreatDoor
open Go AM
def firstN (f : Nat → Int) : Nat → Int
  | 0 => 0
  | n + 1 => if firstN f n = 0 then f n else firstN f n
theorem firstN_step {f : Nat → Int} {n : Nat} (h : firstN f n = 0) (hf : f n = 0) : firstN f (n + 1) = 0 := by simp [firstN, h, hf]
theorem firstN_stay {f : Nat → Int} {e : Int} (he : e ≠ 0) : ∀ {m n : Nat}, m ≤ n → firstN f m = e → firstN f n = e
  | m, n, hm, h => by
    obtain ⟨k, rfl⟩ : ∃ k, n = m + k := ⟨n - m, by omega⟩
    induction k with
    | zero => exact h
    | succ k ih =>
      have := ih (by omega)
      show (if firstN f (m + k) = 0 then f (m + k) else firstN f (m + k)) = e
      rw [this, if_neg he]
theorem firstN_err {f : Nat → Int} {i n : Nat} {e : Int} (h0 : firstN f i = 0) (hi : i < n) (hf : f i = e) (he : e ≠ 0) : firstN f n = e :=
  firstN_stay he (m := i + 1) (by omega) (by simp [firstN, h0, hf])
theorem firstN_zero {f : Nat → Int} : ∀ {n : Nat}, (∀ i, i < n → f i = 0) → firstN f n = 0
  | 0, _ => rfl
  | n + 1, h => firstN_step (firstN_zero fun i hi => h i (by omega)) (h n (by omega))
def ascB (l : List Int) : Bool := (List.range l.length).all fun i => decide (i = 0) || decide (nth l (i - 1) < nth l i)
def setB (l : List Int) (n : Int) : Bool := ascB l && (List.range l.length).all fun i => decide (0 ≤ nth l i) && decide (nth l i < n)
theorem nth_map {α β : Type} [Inhabited α] [Inhabited β] {l : List α} {f : α → β} {i : Nat} (h : i < l.length) : nth (l.map f) i = f (nth l i) := by
  have h1 := nth_eq h
  have h2 := nth_eq (l := l.map f) (i := i) (by simpa using h)
  rw [List.getElem?_map, h1] at h2
  exact (Option.some.inj h2).symm
theorem inB_iff (n lo hi : Int) : inB n lo hi = true ↔ (lo ≤ n ∧ n ≤ hi) := by simp [inB]
theorem inB_true {n lo hi : Int} (h : lo ≤ n ∧ n ≤ hi) : inB n lo hi = true := (inB_iff n lo hi).2 h
theorem inB_no {n lo hi : Int} (h : ¬ (lo ≤ n ∧ n ≤ hi)) : inB n lo hi = false := Bool.eq_false_iff.2 fun h' => h ((inB_iff n lo hi).1 h')
def windowErr (l : List D.Window) (i : Nat) : Int :=
  if (nth l i).From < 0 ∨ (nth l i).To ≤ (nth l i).From ∨ 604800 < (nth l i).To then 1 else if 1 ≤ i ∧ (nth l i).From < (nth l (i - 1)).To then 6 else 0
def windowsErr (l : List D.Window) : Int := if 14 < l.length then 5 else firstN (windowErr l) l.length
end Go.Proofs.YtimfbibaoppfcaaGreatDoor
