/-
  The reference's counts and offsets, in plain Lean.
-/
import Derived.Test.YtimfbibaoppfcaaGreatDoorGrowLaw
set_option linter.unusedSimpArgs false
set_option linter.unusedVariables false
namespace Go.Proofs.YtimfbibaoppfcaaGreatDoor
open Go AM
theorem waitsOK_no (p : D.Policy) (i : Nat) (hi : i < p.Steps.length) (h : inB (nth p.Steps i).Wait 0 86400 = false) : waitsOK p = false := by
  cases hw : waitsOK p with
  | false => rfl
  | true =>
    have := List.all_eq_true.1 hw _ (nth_mem hi)
    rw [h] at this; simp at this
theorem offset_yes {p : D.Policy} {k : Int} (h : 0 ≤ k ∧ k ≤ count p) (hw : waitsOK p = true) : offset p k = (offW p k.toNat, true) := by
  have hc := count_le p
  unfold offset offsets
  rw [if_pos hw, offs_len, if_pos, nth_offs p (by omega)]
  simp [inB]; omega
theorem offset_no {p : D.Policy} {k : Int} (h : ¬ (0 ≤ k ∧ k ≤ count p) ∨ waitsOK p = false) : offset p k = (0, false) := by
  have hc := count_le p
  unfold offset offsets
  rw [if_neg]
  cases hw : waitsOK p with
  | false => simp [inB]; omega
  | true =>
    rcases h with h | h
    · simp [inB, offs_len]; omega
    · rw [hw] at h; simp at h
theorem part_yes {p : D.Policy} {k : Int} (h : 0 ≤ k ∧ k ≤ count p - 1) : part p k = (k % p.Steps.length, k / p.Steps.length, true) := by
  unfold part; rw [if_pos]; simp [inB]; omega
theorem part_no {p : D.Policy} {k : Int} (h : ¬ (0 ≤ k ∧ k ≤ count p - 1)) : part p k = (0, 0, false) := by
  unfold part; rw [if_neg]; simp [inB]; omega
def cntR (p : D.Policy) (o : Int) (k : Nat) : Nat := if waitsOK p = true then cntLe p o k else 0
theorem cntR_le (p : D.Policy) (o : Int) (k : Nat) : cntR p o k ≤ k := by
  have := cntLe_le p o k
  unfold cntR; split <;> omega
theorem cntR_yes {p : D.Policy} {o : Int} {k : Nat} (hk : (k : Int) < count p) (hw : (offset p k).2 = true) (h : (offset p k).1 ≤ o) : cntR p o (k + 1) = cntR p o k + 1 := by
  cases hq : waitsOK p with
  | false => rw [offset_no (.inr hq)] at hw; simp at hw
  | true =>
    rw [offset_yes (by omega) hq] at h
    unfold cntR
    rw [if_pos hq, if_pos hq, cntLe_yes hk (by simpa using h)]
theorem cntR_no {p : D.Policy} {o : Int} {k : Nat} (hk : (k : Int) < count p) (h : (offset p k).2 = false ∨ ¬ (offset p k).1 ≤ o) : cntR p o (k + 1) = cntR p o k := by
  cases hq : waitsOK p with
  | false => simp [cntR, hq]
  | true =>
    rw [offset_yes (by omega) hq] at h
    unfold cntR
    rw [if_pos hq, if_pos hq, cntLe_no (.inr (by rcases h with h | h; simp at h; simpa using h))]
theorem cntR_all (p : D.Policy) (o : Int) {k : Nat} (hk : (k : Int) = count p) : cntR p o k = started p o := by
  cases hq : waitsOK p with
  | false =>
    have : offsets p = [] := by unfold offsets; simp [hq]
    simp [cntR, hq, started, this]
  | true =>
    unfold cntR
    rw [if_pos hq]
    rcases Nat.eq_zero_or_pos k with h0 | h0
    · subst h0
      have : offsets p = offs p 0 := by unfold offsets; rw [if_pos hq, show (count p).toNat = 0 by omega]
      simp [started, this, offs, cntLe]
    · have hc : 0 < count p := by omega
      have hg : Good p := by
        unfold count at hc
        split at hc
        · rename_i hh
          have hi := inB_spec hh.1
          refine ⟨hq, ?_, hh.2, hi.1, hi.2⟩
          rcases Nat.eq_zero_or_pos p.Steps.length with hl | hl
          · rw [hl] at hc; simp at hc
          · exact hl
        · omega
      rw [hg.started o (k := k + 1) (by omega)]
      simp only [cntLe]
      rw [if_neg (by omega)]; rfl
end Go.Proofs.YtimfbibaoppfcaaGreatDoor
