/-
  Package policy, in plain Lean: counts and offsets.
-/
import Derived.Test.YtimfbibaoppfcaaGreatDoorPolData
import Derived.Test.YtimfbibaoppfcaaGreatDoorRows
set_option linter.unusedSimpArgs false
set_option linter.unusedVariables false
namespace Go.Proofs.YtimfbibaoppfcaaGreatDoor
open Go AM
def inB (n lo hi : Int) : Bool := decide (lo ≤ n) && decide (n ≤ hi)
def count (p : D.Policy) : Int := if inB p.Repeat 0 8 = true ∧ p.Steps.length ≤ 8 then (p.Steps.length : Int) * (p.Repeat + 1) else 0
theorem inB_spec {n lo hi : Int} (h : inB n lo hi = true) : lo ≤ n ∧ n ≤ hi := by simpa [inB] using h
theorem inB_false {n lo hi : Int} (h : inB n lo hi = false) : ¬ (lo ≤ n ∧ n ≤ hi) := by simpa [inB] using h
theorem mul_in {a b A B : Int} (ha : 0 ≤ a) (hA : a ≤ A) (hb : 0 ≤ b) (hB : b ≤ B) : 0 ≤ a * b ∧ a * b ≤ A * B :=
  ⟨Int.mul_nonneg ha hb, Int.mul_le_mul hA hB hb (by omega)⟩
theorem count_in {p : D.Policy} (h : inB p.Repeat 0 8 = true) (hl : p.Steps.length ≤ 8) : -9223372036854775808 ≤ ((p.Steps.length : Nat) : Int) * (p.Repeat + 1) ∧ ((p.Steps.length : Nat) : Int) * (p.Repeat + 1) ≤ 9223372036854775807 := by
  have := inB_spec h
  have := mul_in (a := ((p.Steps.length : Nat) : Int)) (b := p.Repeat + 1) (A := 8) (B := 9) (by omega) (by omega) (by omega) (by omega)
  omega
theorem count_le (p : D.Policy) : count p ≤ 72 ∧ 0 ≤ count p := by
  unfold count
  split
  · rename_i h
    have := inB_spec h.1
    exact ⟨by have := mul_in (a := ((p.Steps.length : Nat) : Int)) (b := p.Repeat + 1) (A := 8) (B := 9) (by omega) (by omega) (by omega) (by omega); omega,
      by have := mul_in (a := ((p.Steps.length : Nat) : Int)) (b := p.Repeat + 1) (A := 8) (B := 9) (by omega) (by omega) (by omega) (by omega); omega⟩
  · omega
theorem count_pos {p : D.Policy} {k : Nat} (h : ((k : Nat) : Int) < count p) : 0 < p.Steps.length := by
  rcases Nat.eq_zero_or_pos p.Steps.length with h0 | h0
  · exfalso
    unfold count at h
    rw [h0] at h
    simp at h
    omega
  · exact h0
def offW (p : D.Policy) : Nat → Int
  | 0 => 0
  | k + 1 => IntKind.i64.wrap (offW p k + (nth p.Steps (k % p.Steps.length)).Wait)
def offs (p : D.Policy) (k : Nat) : List Int := (List.range (k + 1)).map (offW p)
theorem offs_len (p : D.Policy) (k : Nat) : (offs p k).length = k + 1 := by simp [offs]
theorem offs_snoc (p : D.Policy) (k : Nat) : (offs p k).map D.cInt ++ [[pI (offW p (k + 1))]] = (offs p (k + 1)).map D.cInt := by
  simp [offs, List.range_succ (n := k + 1)]
theorem offs_at (p : D.Policy) (k : Nat) : ((offs p k).map D.cInt)[k]? = some [pI (offW p k)] := by simp [offs]
def waitsOK (p : D.Policy) : Bool := p.Steps.all fun s => inB s.Wait 0 86400
def offsets (p : D.Policy) : List Int := if waitsOK p = true then offs p (count p).toNat else []
theorem waitsOK_of {p : D.Policy} (h : ∀ j, j < p.Steps.length → inB (nth p.Steps j).Wait 0 86400 = true) : waitsOK p = true := by
  refine List.all_eq_true.2 fun s hs => ?_
  obtain ⟨j, hj, rfl⟩ := List.mem_iff_getElem.1 hs
  have := h j hj
  simpa [nth, List.getD_eq_getElem?_getD, List.getElem?_eq_getElem hj] using this
theorem offsets_ok (p : D.Policy) (h : ∀ j, j < p.Steps.length → inB (nth p.Steps j).Wait 0 86400 = true) : offsets p = offs p (count p).toNat := by
  unfold offsets; rw [if_pos (waitsOK_of h)]
theorem offsets_no (p : D.Policy) (i : Nat) (hi : i < p.Steps.length) (h : inB (nth p.Steps i).Wait 0 86400 = false) : offsets p = [] := by
  unfold offsets
  rw [if_neg]
  intro hw
  have := List.all_eq_true.1 hw _ (nth_mem hi)
  rw [h] at this; simp at this
theorem offsets_len_le (p : D.Policy) : (offsets p).length ≤ 73 := by
  have := count_le p
  unfold offsets
  split
  · rw [offs_len]; omega
  · simp
def offset (p : D.Policy) (k : Int) : Int × Bool := if inB k 0 ((offsets p).length - 1) = true then (nth (offsets p) k.toNat, true) else (0, false)
def part (p : D.Policy) (k : Int) : Int × Int × Bool := if inB k 0 (count p - 1) = true then (k % p.Steps.length, k / p.Steps.length, true) else (0, 0, false)
def started (p : D.Policy) (o : Int) : Nat := ((offsets p).dropLast.takeWhile (fun x => decide (x ≤ o))).length
theorem tw_len {q : Int → Bool} : ∀ {l : List Int} {k : Nat}, (∀ j, j < k → q (nth l j) = true) → k ≤ l.length → (k = l.length ∨ q (nth l k) = false) → (l.takeWhile q).length = k
  | [], k, _, hk, _ => by simp at hk; simp [hk]
  | x :: l, 0, _, _, h => by
    rcases h with h | h
    · simp at h
    · have : q x = false := h
      simp [List.takeWhile_cons, this]
  | x :: l, k + 1, h1, hk, h => by
    have h0 : q x = true := h1 0 (by omega)
    have ih := tw_len (l := l) (k := k) (fun j hj => h1 (j + 1) (by omega)) (by simpa using hk) (by
      rcases h with h | h
      · exact .inl (by simpa using h)
      · exact .inr h)
    simp [List.takeWhile_cons, h0, ih]
theorem nth_dropLast {l : List Int} {j : Nat} (h : j + 1 < l.length) : nth l.dropLast j = nth l j := by
  simp only [nth, List.getD_eq_getElem?_getD]
  rw [List.getElem?_dropLast]
  simp [show j < l.length - 1 by omega]
theorem started_eq {p : D.Policy} {o : Int} {k : Nat} (h1 : k + 1 ≤ (offsets p).length ∨ k = 0) (hw : ∀ j, j < k → nth (offsets p) j ≤ o) (h : ¬ (k + 1 < (offsets p).length) ∨ ¬ (nth (offsets p) k ≤ o)) : started p o = k := by
  unfold started
  by_cases hl : (offsets p).length = 0
  · have : offsets p = [] := List.eq_nil_of_length_eq_zero hl
    have hk : k = 0 := by omega
    rw [this]; simp [hk]
  · refine tw_len (fun j hj => ?_) (by simp; omega) ?_
    · rw [nth_dropLast (by omega)]; exact decide_eq_true (hw j hj)
    · by_cases hk : k + 1 < (offsets p).length
      · rcases h with h | h
        · exact absurd hk h
        · exact .inr (by rw [nth_dropLast hk]; exact decide_eq_false h)
      · exact .inl (by simp; omega)
end Go.Proofs.YtimfbibaoppfcaaGreatDoor
