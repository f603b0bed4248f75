/-
  The errors of books and of configurations, in plain Lean.
-/
import Derived.Test.YtimfbibaoppfcaaGreatDoorCrewPlain
import Derived.Test.YtimfbibaoppfcaaGreatDoorStepsLaw
set_option linter.unusedSimpArgs false
set_option linter.unusedVariables false
namespace Go.Proofs.YtimfbibaoppfcaaGreatDoor
open Go AM
def firstN (f : Nat → Int) : Nat → Int
  | 0 => 0
  | n + 1 => if firstN f n = 0 then f n else firstN f n
theorem firstN_step {f : Nat → Int} {n : Nat} (h : firstN f n = 0) (hf : f n = 0) : firstN f (n + 1) = 0 := by simp [firstN, h, hf]
theorem firstN_stay {f : Nat → Int} {e : Int} (he : e ≠ 0) : ∀ {m n : Nat}, m ≤ n → firstN f m = e → firstN f n = e
  | m, n, hm, h => by
    obtain ⟨k, rfl⟩ : ∃ k, n = m + k := ⟨n - m, by omega⟩
    induction k with
    | zero => exact h
    | succ k ih =>
      have := ih (by omega)
      show (if firstN f (m + k) = 0 then f (m + k) else firstN f (m + k)) = e
      rw [this, if_neg he]
theorem firstN_err {f : Nat → Int} {i n : Nat} {e : Int} (h0 : firstN f i = 0) (hi : i < n) (hf : f i = e) (he : e ≠ 0) : firstN f n = e :=
  firstN_stay he (m := i + 1) (by omega) (by simp [firstN, h0, hf])
theorem firstN_zero {f : Nat → Int} : ∀ {n : Nat}, (∀ i, i < n → f i = 0) → firstN f n = 0
  | 0, _ => rfl
  | n + 1, h => firstN_step (firstN_zero fun i hi => h i (by omega)) (h n (by omega))
def earlierB (l : List ByteArray) (i : Nat) : Bool := (List.range i).any fun k => decide (nth l k = nth l i)
theorem earlierB_yes {l : List ByteArray} {i k : Nat} (hk : k < i) (h : nth l k = nth l i) : earlierB l i = true := by
  simp only [earlierB, List.any_eq_true, List.mem_range, decide_eq_true_eq]
  exact ⟨k, hk, h⟩
theorem earlierB_no {l : List ByteArray} {i n : Nat} (hn : i ≤ n) (h : ∀ k, k < n → ¬ nth l k = nth l i) : earlierB l i = false := by
  cases hb : earlierB l i with
  | false => rfl
  | true =>
    simp only [earlierB, List.any_eq_true, List.mem_range, decide_eq_true_eq] at hb
    obtain ⟨k, hk, he⟩ := hb
    exact absurd he (h k (by omega))
def ascB (l : List Int) : Bool := (List.range l.length).all fun i => decide (i = 0) || decide (nth l (i - 1) < nth l i)
theorem ascB_yes {l : List Int} {n : Nat} (hn : l.length ≤ n) (h : ∀ i, 1 ≤ i → i < n → nth l (i - 1) < nth l i) : ascB l = true := by
  simp only [ascB, List.all_eq_true, List.mem_range, Bool.or_eq_true, decide_eq_true_eq]
  intro i hi
  rcases Nat.eq_zero_or_pos i with h0 | h0
  · exact .inl h0
  · exact .inr (h i h0 (by omega))
theorem ascB_no {l : List Int} {i : Nat} (h1 : 1 ≤ i) (hi : i < l.length) (h : ¬ nth l (i - 1) < nth l i) : ascB l = false := by
  cases hb : ascB l with
  | false => rfl
  | true =>
    simp only [ascB, List.all_eq_true, List.mem_range, Bool.or_eq_true, decide_eq_true_eq] at hb
    rcases hb i hi with h0 | h0
    · omega
    · exact absurd h0 h
theorem ascB_get {l : List Int} (h : ascB l = true) {i : Nat} (h1 : 1 ≤ i) (hi : i < l.length) : nth l (i - 1) < nth l i := by
  simp only [ascB, List.all_eq_true, List.mem_range, Bool.or_eq_true, decide_eq_true_eq] at h
  rcases h i hi with h0 | h0
  · omega
  · exact h0
theorem ascB_mono {l : List Int} (h : ascB l = true) {i : Nat} : ∀ {j : Nat}, i ≤ j → j < l.length → nth l i ≤ nth l j
  | 0, hij, hj => by rw [show i = 0 by omega]; exact Int.le_refl _
  | j + 1, hij, hj => by
    rcases Nat.eq_or_lt_of_le hij with e | e
    · rw [e]; exact Int.le_refl _
    · have h1 := ascB_mono h (i := i) (j := j) (by omega) (by omega)
      have h2 := ascB_get h (i := j + 1) (by omega) hj
      rw [Nat.add_sub_cancel] at h2
      omega
def setErr (n : Nat) (l : List Int) : Int :=
  if l.length = 0 then 7 else if ascB l = false then 6 else if 0 ≤ nth l 0 ∧ nth l (l.length - 1) < (n : Int) then 0 else 3
def kindN (nP nS nT : Nat) (k : Int) : Int := if k = 0 then (nP : Int) else if k = 1 then (nS : Int) else if k = 2 then (nT : Int) else 0
def targetErr (nP nS nT : Nat) (t : D.Target) : Int := if 0 ≤ t.Index ∧ t.Index < kindN nP nS nT t.Kind then 0 else 3
def targetsErr (nP nS nT : Nat) (l : List D.Target) : Int := if 6 < l.length then 5 else firstN (fun i => targetErr nP nS nT (nth l i)) l.length
def stepErr (nP nS nT : Nat) (s : D.PolicyStep) : Int := if inB s.Wait 0 86400 = false then 1 else targetsErr nP nS nT s.Targets
def pnames (b : D.Book) : List ByteArray := b.Policies.map (·.Name)
def tnames (b : D.Book) : List ByteArray := b.Teams.map (·.Name)
def policyErr (nP nS : Nat) (b : D.Book) (i : Nat) : Int :=
  if nameOK (nth b.Policies i).Name = false then 8 else if earlierB (pnames b) i = true then 4 else if (nth b.Policies i).Steps.length = 0 then 7
  else if 8 < (nth b.Policies i).Steps.length then 5 else if inB (nth b.Policies i).Repeat 0 8 = false then 1
  else firstN (fun k => stepErr nP nS b.Teams.length (nth (nth b.Policies i).Steps k)) (nth b.Policies i).Steps.length
def teamErr (nP : Nat) (b : D.Book) (i : Nat) : Int :=
  if nameOK (nth b.Teams i).Name = false then 8 else if earlierB (tnames b) i = true then 4 else setErr nP (nth b.Teams i).Members
def bookErr (nP nS : Nat) (b : D.Book) : Int :=
  if 8 < b.Teams.length ∨ 12 < b.Policies.length then 5 else
  if firstN (teamErr nP b) b.Teams.length = 0 then firstN (policyErr nP nS b) b.Policies.length else firstN (teamErr nP b) b.Teams.length
theorem target_ok {nP nS nT : Nat} {t : D.Target} {n : Int} (h : inB t.Index 0 (n - 1) = true) (hn : (t.Kind = 0 ∧ n = (nP : Int)) ∨ (t.Kind = 1 ∧ n = (nS : Int)) ∨ (t.Kind = 2 ∧ n = (nT : Int))) : targetErr nP nS nT t = 0 := by
  have := inB_spec h
  unfold targetErr kindN
  rw [if_pos]
  rcases hn with ⟨h1, h2⟩ | ⟨h1, h2⟩ | ⟨h1, h2⟩ <;> simp [h1] <;> omega
theorem target_no {nP nS nT : Nat} {t : D.Target} {n : Int} (h : inB t.Index 0 (n - 1) = false) (hn : (t.Kind = 0 ∧ n = (nP : Int)) ∨ (t.Kind = 1 ∧ n = (nS : Int)) ∨ (t.Kind = 2 ∧ n = (nT : Int))) : targetErr nP nS nT t = 3 := by
  have := inB_false h
  unfold targetErr kindN
  rw [if_neg]
  rcases hn with ⟨h1, h2⟩ | ⟨h1, h2⟩ | ⟨h1, h2⟩ <;> simp [h1] <;> omega
theorem target_bad {nP nS nT : Nat} {t : D.Target} (h : inB t.Kind 0 2 = false) : targetErr nP nS nT t = 3 := by
  have := inB_false h
  unfold targetErr kindN
  rw [if_neg]
  rw [if_neg (by omega), if_neg (by omega), if_neg (by omega)]
  omega
theorem target_eq (nP nS nT : Nat) (t : D.Target) : targetErr nP nS nT t = if 0 ≤ t.Index ∧ ((t.Kind = 0 ∧ t.Index < (nP : Int)) ∨ (t.Kind = 1 ∧ t.Index < (nS : Int)) ∨ (t.Kind = 2 ∧ t.Index < (nT : Int))) then 0 else 3 := by
  unfold targetErr kindN
  by_cases h0 : t.Kind = 0
  · simp [h0]
  · by_cases h1 : t.Kind = 1
    · simp [h1]
    · by_cases h2 : t.Kind = 2
      · simp [h2]
      · rw [if_neg h0, if_neg h1, if_neg h2, if_neg (by omega), if_neg (by omega)]
def setB (l : List Int) (n : Int) : Bool := ascB l && (List.range l.length).all fun i => decide (0 ≤ nth l i) && decide (nth l i < n)
theorem nth_map {α β : Type} [Inhabited α] [Inhabited β] {l : List α} {f : α → β} {i : Nat} (h : i < l.length) : nth (l.map f) i = f (nth l i) := by
  have h1 := nth_eq h
  have h2 := nth_eq (l := l.map f) (i := i) (by simpa using h)
  rw [List.getElem?_map, h1] at h2
  exact (Option.some.inj h2).symm
theorem tname_at {b : D.Book} {i : Nat} (h : i < b.Teams.length) : nth (tnames b) i = (nth b.Teams i).Name := nth_map h
theorem pname_at {b : D.Book} {i : Nat} (h : i < b.Policies.length) : nth (pnames b) i = (nth b.Policies i).Name := nth_map h
theorem inB_iff (n lo hi : Int) : inB n lo hi = true ↔ (lo ≤ n ∧ n ≤ hi) := by simp [inB]
theorem inB_true {n lo hi : Int} (h : lo ≤ n ∧ n ≤ hi) : inB n lo hi = true := (inB_iff n lo hi).2 h
theorem inB_no {n lo hi : Int} (h : ¬ (lo ≤ n ∧ n ≤ hi)) : inB n lo hi = false := Bool.eq_false_iff.2 fun h' => h ((inB_iff n lo hi).1 h')
def windowErr (l : List D.Window) (i : Nat) : Int :=
  if (nth l i).From < 0 ∨ (nth l i).To ≤ (nth l i).From ∨ 604800 < (nth l i).To then 1 else if 1 ≤ i ∧ (nth l i).From < (nth l (i - 1)).To then 6 else 0
def windowsErr (l : List D.Window) : Int := if 14 < l.length then 5 else firstN (windowErr l) l.length
end Go.Proofs.YtimfbibaoppfcaaGreatDoor
