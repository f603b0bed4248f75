/-
  Package policy, plain laws: another wait of one step, one more round.
-/
import Derived.Test.YtimfbibaoppfcaaGreatDoorPolLaw
set_option linter.unusedSimpArgs false
set_option linter.unusedVariables false
namespace Go.Proofs.YtimfbibaoppfcaaGreatDoor
open Go AM
theorem teams_le {L : List Int} : ∀ (n : Nat) (ts : List D.Team) (i : Nat), i ≤ L.length → (teams L n ts i).2 ≤ L.length
  | 0, ts, i, h => h
  | n + 1, ts, i, h => teams_le n _ _ (teamI_le h)
theorem policies_le {L : List Int} {nT : Nat} : ∀ (n : Nat) (ts : List D.Policy) (i : Nat), i ≤ L.length → (policies L nT n ts i).2 ≤ L.length
  | 0, ts, i, h => h
  | n + 1, ts, i, h => policies_le n _ _ (policyI_le h)
theorem bookI_le {L : List Int} {i : Nat} (h : i ≤ L.length) : bookI L i ≤ L.length := policies_le _ _ _ (nextI_le _ (teams_le _ _ _ (nextI_le _ h)))
theorem policies_all {L : List Int} {nT : Nat} {Q : D.Policy → Prop} (hQ : ∀ k i, Q (policyP L nT k i)) : ∀ (n : Nat) (ts : List D.Policy) (i : Nat), (∀ p ∈ ts, Q p) → (∀ p ∈ (policies L nT n ts i).1, Q p)
  | 0, ts, i, h => h
  | n + 1, ts, i, h => by
    have := policies_all (L := L) (nT := nT) hQ n (ts ++ [policyP L nT ts.length i]) (policyI L nT i) (fun p hp => by
      rcases List.mem_append.1 hp with hp | hp
      · exact h p hp
      · simp only [List.mem_singleton] at hp; rw [hp]; exact hQ _ _)
    exact this
theorem book_rep (L : List Int) (i : Nat) : ∀ p ∈ (book L i).Policies, p.Repeat ≤ 2 := by
  intro p hp
  refine policies_all (L := L) (nT := (bookT L i).1.length) (Q := fun p => p.Repeat ≤ 2) (fun k i => ?_) (1 + nextN L (bookT L i).2 3) [] (nextI L (bookT L i).2 3) (by simp) p hp
  have h3 := oneV_mem (L := L) (i := i) (l := [0, 0, 1, 2]) (by simp)
  simp only [List.mem_cons, List.not_mem_nil, or_false] at h3
  show oneV L i [0, 0, 1, 2] ≤ 2
  omega

/-- One round more. -/
def moreOf (p : D.Policy) : D.Policy := ⟨p.Name, p.Steps, p.Repeat + 1⟩
theorem Good.more {p : D.Policy} (h : Good p) (h2 : p.Repeat ≤ 2) : Good (moreOf p) :=
  ⟨h.waits, h.len1, h.len8, by have := h.rep0; show (0 : Int) ≤ p.Repeat + 1; omega, by show p.Repeat + 1 ≤ 8; omega⟩
theorem Good.countMore {p : D.Policy} (h : Good p) (h2 : p.Repeat ≤ 2) : Go.Proofs.YtimfbibaoppfcaaGreatDoor.count (moreOf p) = Go.Proofs.YtimfbibaoppfcaaGreatDoor.count p + ((p.Steps.length : Nat) : Int) := by
  rw [(h.more h2).count, h.count]
  show (p.Steps.length : Int) * (p.Repeat + 1 + 1) = _
  rw [Int.mul_add, Int.mul_one]
theorem Good.endMore {p : D.Policy} (h : Good p) (h2 : p.Repeat ≤ 2) : (Go.Proofs.YtimfbibaoppfcaaGreatDoor.offset (moreOf p) (Go.Proofs.YtimfbibaoppfcaaGreatDoor.count (moreOf p))).1 = Go.Proofs.YtimfbibaoppfcaaGreatDoor.offW p (Go.Proofs.YtimfbibaoppfcaaGreatDoor.count p).toNat + Go.Proofs.YtimfbibaoppfcaaGreatDoor.offW p p.Steps.length := by
  have hc := count_le p
  have h8 := h.len8
  rw [(h.more h2).ends, h.countMore h2, offW_steps (p := moreOf p) (q := p) rfl, show (Go.Proofs.YtimfbibaoppfcaaGreatDoor.count p + ((p.Steps.length : Nat) : Int)).toNat = (Go.Proofs.YtimfbibaoppfcaaGreatDoor.count p).toNat + p.Steps.length by omega]
  exact h.round _ (by omega)

/-- Another wait of step k. -/
def oneOf (p : D.Policy) (k : Nat) (w : Int) : D.Policy := ⟨p.Name, p.Steps.set k ⟨w, (nth p.Steps k).Urgent, (nth p.Steps k).Targets⟩, p.Repeat⟩
theorem oneOf_steps (p : D.Policy) (k : Nat) (w : Int) : (p.Steps.map D.PolicyStep.cells).set k [(pI w), (pB (nth p.Steps k).Urgent), (.sl false 2 ((nth p.Steps k).Targets.map D.Target.cells))] = ((oneOf p k w).Steps.map D.PolicyStep.cells) := by
  show _ = (p.Steps.set k _).map D.PolicyStep.cells
  rw [List.map_set]
theorem oneOf_len (p : D.Policy) (k : Nat) (w : Int) : (oneOf p k w).Steps.length = p.Steps.length := List.length_set ..
theorem oneOf_nth (p : D.Policy) (k : Nat) (w : Int) {j : Nat} (hj : j < p.Steps.length) : (nth (oneOf p k w).Steps j).Wait = if j = k then w else (nth p.Steps j).Wait := by
  show (nth (p.Steps.set k _) j).Wait = _
  simp only [nth, List.getD_eq_getElem?_getD, List.getElem?_set]
  by_cases e : k = j
  · subst e; simp [hj]
  · rw [if_neg e, if_neg (fun h => e h.symm)]
theorem Good.oneOf {p : D.Policy} (h : Good p) {k : Nat} {w : Int} (h0 : 0 ≤ w) (h1 : w ≤ 65535) : Good (oneOf p k w) := by
  refine ⟨waitsOK_of fun j hj => ?_, by rw [oneOf_len]; exact h.len1, by rw [oneOf_len]; exact h.len8, h.rep0, h.rep8⟩
  rw [oneOf_len] at hj
  rw [oneOf_nth p k w hj]
  split
  · simp [inB]; omega
  · exact List.all_eq_true.1 h.waits _ (nth_mem hj)
theorem oneOf_count (p : D.Policy) (k : Nat) (w : Int) : count (oneOf p k w) = count p := by
  unfold count; rw [oneOf_len]; rfl
/-- How often step k is ahead of place j. -/
def times (m k : Nat) : Nat → Nat
  | 0 => 0
  | j + 1 => times m k j + if j % m = k then 1 else 0
theorem times_yes {m k j : Nat} (h : j % m = k) : times m k (j + 1) = times m k j + 1 := by simp only [times]; rw [if_pos h]
theorem times_no {m k j : Nat} (h : ¬ j % m = k) : times m k (j + 1) = times m k j := by simp only [times]; rw [if_neg h]; rfl
theorem times_le (m k : Nat) : ∀ j, times m k j ≤ j
  | 0 => Nat.le_refl _
  | j + 1 => by have := times_le m k j; simp only [times]; split <;> omega
theorem Good.oneOff {p : D.Policy} (h : Good p) {k : Nat} {w : Int} (hk : k < p.Steps.length) (h0 : 0 ≤ w) (h1 : w ≤ 65535) : ∀ i, i ≤ 1000 →
    Go.Proofs.YtimfbibaoppfcaaGreatDoor.offW (Go.Proofs.YtimfbibaoppfcaaGreatDoor.oneOf p k w) i = Go.Proofs.YtimfbibaoppfcaaGreatDoor.offW p i + ((times p.Steps.length k i : Nat) : Int) * (w - (nth p.Steps k).Wait)
  | 0, _ => by simp [Go.Proofs.YtimfbibaoppfcaaGreatDoor.offW, times]
  | i + 1, hi => by
    have ih := Good.oneOff h hk h0 h1 i (by omega)
    rw [((h.oneOf (k := k) h0 h1).offW i (by omega)).2.2, (h.offW i (by omega)).2.2, ih]
    have hm : i % p.Steps.length < p.Steps.length := Nat.mod_lt _ (by have := h.len1; omega)
    have : waitAt (Go.Proofs.YtimfbibaoppfcaaGreatDoor.oneOf p k w) i = if i % p.Steps.length = k then w else waitAt p i := by
      unfold waitAt
      rw [oneOf_len, oneOf_nth p k w hm]
    rw [this]
    by_cases e : i % p.Steps.length = k
    · rw [if_pos e, times_yes e]
      have : waitAt p i = (nth p.Steps k).Wait := by unfold waitAt; rw [e]
      rw [this, Int.natCast_add, Int.add_mul]
      simp only [Int.natCast_one, Int.one_mul]
      omega
    · rw [if_neg e, times_no e]
      omega
theorem by_in {T : Nat} {B : Int} (hT : T ≤ 72) (h0 : -86400 ≤ B) (h1 : B ≤ 86400) : -6220800 ≤ ((T : Nat) : Int) * B ∧ ((T : Nat) : Int) * B ≤ 6220800 := by
  rcases Int.le_total 0 B with h | h
  · have := mul_in (a := (T : Int)) (b := B) (A := 72) (B := 86400) (by omega) (by omega) h h1
    omega
  · have := mul_in (a := (T : Int)) (b := -B) (A := 72) (B := 86400) (by omega) (by omega) (by omega) (by omega)
    rw [Int.mul_neg] at this
    omega
theorem part_in {p : D.Policy} {j : Nat} (h : (j : Int) < Go.Proofs.YtimfbibaoppfcaaGreatDoor.count p) : part p j = ((((j % p.Steps.length : Nat)) : Int), (((j / p.Steps.length : Nat)) : Int), true) := by
  unfold part
  rw [if_pos (by simp [inB]; omega)]
  simp
end Go.Proofs.YtimfbibaoppfcaaGreatDoor
