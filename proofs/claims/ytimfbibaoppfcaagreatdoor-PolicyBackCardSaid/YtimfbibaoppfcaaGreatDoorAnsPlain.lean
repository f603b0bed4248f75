/-
  Answers, in plain Lean: their texts, what a text means. No project text.
-/
import Derived.Test.YtimfbibaoppfcaaGreatDoorCrewLaw
import Derived.Test.YtimfbibaoppfcaaGreatDoorKit
import Derived.Lib.ItoaLen
set_option linter.unusedSimpArgs false
set_option linter.unusedVariables false
namespace Go.Proofs.YtimfbibaoppfcaaGreatDoor
open Go AM
namespace D
structure Answer where
  ID : Int
  Page : Int
  Person : Int
  Kind : Int
  Arg : Int
  At : Int
instance : Inhabited Answer := ⟨⟨default, default, default, default, default, default⟩⟩
end D
abbrev b0 : ByteArray := ByteArray.mk #[]
theorem sz_app {a b : ByteArray} {m n : Nat} (h1 : a.size ≤ m) (h2 : b.size ≤ n) : (a ++ b).size ≤ m + n := by rw [ByteArray.size_append]; omega
theorem sz_le {a b : ByteArray} {m n : Nat} (h1 : a.size ≤ m) (h2 : b.size ≤ n) (h : Nat.ble (m + n) 9223372036854775807 = true) : a.size + b.size ≤ 9223372036854775807 := by
  have := Nat.le_of_ble_eq_true h; omega
theorem itoaB_size (n : Int) (h0 : -9223372036854775808 ≤ n) (h1 : n ≤ 9223372036854775807) : (itoaB n).size ≤ 21 := by
  have := Lib.itoa_length_le n h0 h1
  simpa [itoaB, ByteArray.size] using this
theorem itoaB_pos (n : Int) : 1 ≤ (itoaB n).size := by
  have h : ∀ u, 1 ≤ (Lib.decDigits u).length := fun u => by
    rw [Lib.decDigits]; split <;> simp
  have : 1 ≤ (Lib.itoa n).length := by
    unfold Lib.itoa; split
    · simp
    · exact h _
  simpa [itoaB, ByteArray.size] using this
theorem atoiV_in (s : ByteArray) : -9223372036854775808 ≤ atoiV s ∧ atoiV s ≤ 9223372036854775807 := by
  unfold atoiV
  cases hA : Lib.atoiAll s.data.toList
  case range => simp only [Lib.atoiSat]; split <;> omega
  case ok v => exact Lib.atoiAll_bounds hA
  · simp
def findP : List D.Person → ByteArray → Nat
  | [], _ => 0
  | p :: r, t => if p.Name = t then 0 else findP r t + 1
theorem findP_eq : ∀ {ps : List D.Person} {t : ByteArray} {i : Nat}, i ≤ ps.length → (∀ j, j < i → (nth ps j).Name ≠ t) → (i = ps.length ∨ (nth ps i).Name = t) → findP ps t = i
  | [], t, i, hi, _, _ => by simp at hi; subst hi; rfl
  | p :: r, t, 0, _, _, h => by
    rcases h with h | h
    · simp at h
    · have : p.Name = t := h
      simp [findP, this]
  | p :: r, t, i + 1, hi, hn, h => by
    have h0 : p.Name ≠ t := hn 0 (by omega)
    rw [findP, if_neg h0, findP_eq (i := i) (by simpa using hi) (fun j hj => hn (j + 1) (by omega)) (by
      rcases h with h | h
      · left; simpa using h
      · right; exact h)]
def pidx (ps : List D.Person) (t : ByteArray) : Int := if findP ps t < ps.length then ((findP ps t : Nat) : Int) else -1
theorem pidx_hit {ps : List D.Person} {t : ByteArray} {i : Nat} (hi : i < ps.length) (hn : ∀ j, j < i → (nth ps j).Name ≠ t) (h : (nth ps i).Name = t) : pidx ps t = ((i : Nat) : Int) := by
  have e := findP_eq (Nat.le_of_lt hi) hn (.inr h)
  unfold pidx; rw [e, if_pos hi]
theorem pidx_none {ps : List D.Person} {t : ByteArray} {i : Nat} (hi : i = ps.length) (hn : ∀ j, j < i → (nth ps j).Name ≠ t) : pidx ps t = -1 := by
  have e := findP_eq (Nat.le_of_eq hi) hn (.inl hi)
  unfold pidx; rw [e, if_neg (by omega)]
def person (ps : List D.Person) (t : ByteArray) : Int × Bool := if findP ps t < ps.length then (((findP ps t : Nat) : Int), true) else (0, false)
theorem person_max (ps : List D.Person) (t : ByteArray) : max (0 : Int) (pidx ps t) = (person ps t).1 := by
  unfold person pidx; split <;> simp <;> omega
theorem person_is (ps : List D.Person) (t : ByteArray) : decide ((0 : Int) ≤ pidx ps t) = (person ps t).2 := by
  unfold person pidx; split <;> simp
end Go.Proofs.YtimfbibaoppfcaaGreatDoor
