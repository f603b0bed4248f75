/-
  Package policy, plain laws: offsets of good policies; the books that dice make are good.
-/
import Derived.Test.YtimfbibaoppfcaaGreatDoorMadePlain
set_option linter.unusedSimpArgs false
set_option linter.unusedVariables false
namespace Go.Proofs.YtimfbibaoppfcaaGreatDoor
open Go AM
structure Good (p : D.Policy) : Prop where
  waits : waitsOK p = true
  len1 : 1 ≤ p.Steps.length
  len8 : p.Steps.length ≤ 8
  rep0 : 0 ≤ p.Repeat
  rep8 : p.Repeat ≤ 8
theorem Good.count {p : D.Policy} (h : Good p) : count p = (p.Steps.length : Int) * (p.Repeat + 1) := by
  unfold Go.Proofs.YtimfbibaoppfcaaGreatDoor.count
  rw [if_pos]
  exact ⟨by simp [inB, h.rep0, h.rep8], h.len8⟩
/-- The wait of step k. -/
def waitAt (p : D.Policy) (k : Nat) : Int := (nth p.Steps (k % p.Steps.length)).Wait
theorem Good.wait {p : D.Policy} (h : Good p) (k : Nat) : 0 ≤ waitAt p k ∧ waitAt p k ≤ 86400 := by
  have h1 := List.all_eq_true.1 h.waits _ (nth_mem (l := p.Steps) (i := k % p.Steps.length) (Nat.mod_lt _ (by have := h.len1; omega)))
  exact inB_spec h1
theorem Good.offW {p : D.Policy} (h : Good p) : ∀ k, k ≤ 1000 → 0 ≤ offW p k ∧ offW p k ≤ 86400 * (k : Int) ∧ offW p (k + 1) = offW p k + waitAt p k
  | 0, _ => by
    have hw := h.wait 0
    refine ⟨by simp [Go.Proofs.YtimfbibaoppfcaaGreatDoor.offW], by simp [Go.Proofs.YtimfbibaoppfcaaGreatDoor.offW], ?_⟩
    show IntKind.i64.wrap (Go.Proofs.YtimfbibaoppfcaaGreatDoor.offW p 0 + waitAt p 0) = _
    exact IntWalk.i64_in _ ⟨by simp only [Go.Proofs.YtimfbibaoppfcaaGreatDoor.offW]; omega, by simp only [Go.Proofs.YtimfbibaoppfcaaGreatDoor.offW]; omega⟩
  | k + 1, hk => by
    obtain ⟨h1, h2, h3⟩ := Good.offW h k (by omega)
    have hw := h.wait k
    have hw' := h.wait (k + 1)
    refine ⟨by rw [h3]; omega, by rw [h3]; omega, ?_⟩
    show IntKind.i64.wrap (Go.Proofs.YtimfbibaoppfcaaGreatDoor.offW p (k + 1) + waitAt p (k + 1)) = _
    exact IntWalk.i64_in _ ⟨by rw [h3]; omega, by rw [h3]; omega⟩
theorem Good.mono {p : D.Policy} (h : Good p) {j k : Nat} (hjk : j ≤ k) (hk : k ≤ 1000) : Go.Proofs.YtimfbibaoppfcaaGreatDoor.offW p j ≤ Go.Proofs.YtimfbibaoppfcaaGreatDoor.offW p k := by
  induction k with
  | zero => have : j = 0 := by omega
            subst this; exact Int.le_refl _
  | succ k ih =>
    by_cases e : j = k + 1
    · subst e; exact Int.le_refl _
    · have := ih (by omega) (by omega)
      have h2 := (h.offW k (by omega)).2.2
      have := h.wait k
      omega
/-- Each round takes the same time. -/
theorem Good.round {p : D.Policy} (h : Good p) : ∀ k, k + p.Steps.length ≤ 1000 → Go.Proofs.YtimfbibaoppfcaaGreatDoor.offW p (k + p.Steps.length) = Go.Proofs.YtimfbibaoppfcaaGreatDoor.offW p k + Go.Proofs.YtimfbibaoppfcaaGreatDoor.offW p p.Steps.length
  | 0, hk => by simp [Go.Proofs.YtimfbibaoppfcaaGreatDoor.offW]
  | k + 1, hk => by
    have ih := Good.round h k (by omega)
    have h1 := (h.offW k (by omega)).2.2
    have h2 := (h.offW (k + p.Steps.length) (by omega)).2.2
    have h3 : waitAt p (k + p.Steps.length) = waitAt p k := by unfold waitAt; rw [Nat.add_mod_right]
    rw [show k + 1 + p.Steps.length = k + p.Steps.length + 1 by omega, h2, ih, h1, h3]; omega
theorem offW_steps {p q : D.Policy} (h : p.Steps = q.Steps) : ∀ k, Go.Proofs.YtimfbibaoppfcaaGreatDoor.offW p k = Go.Proofs.YtimfbibaoppfcaaGreatDoor.offW q k
  | 0 => rfl
  | k + 1 => by simp only [Go.Proofs.YtimfbibaoppfcaaGreatDoor.offW, offW_steps h k, h]
theorem Good.offsets {p : D.Policy} (h : Good p) : Go.Proofs.YtimfbibaoppfcaaGreatDoor.offsets p = offs p (Go.Proofs.YtimfbibaoppfcaaGreatDoor.count p).toNat := by
  unfold Go.Proofs.YtimfbibaoppfcaaGreatDoor.offsets; rw [if_pos h.waits]
theorem nth_offs (p : D.Policy) {k n : Nat} (h : k ≤ n) : nth (offs p n) k = Go.Proofs.YtimfbibaoppfcaaGreatDoor.offW p k := by
  unfold offs nth
  rw [List.getD_eq_getElem?_getD, List.getElem?_map, List.getElem?_range (by omega)]; rfl
theorem Good.offset {p : D.Policy} (h : Good p) {k : Nat} (hk : (k : Int) ≤ Go.Proofs.YtimfbibaoppfcaaGreatDoor.count p) : Go.Proofs.YtimfbibaoppfcaaGreatDoor.offset p k = (Go.Proofs.YtimfbibaoppfcaaGreatDoor.offW p k, true) := by
  have hc := count_le p
  unfold Go.Proofs.YtimfbibaoppfcaaGreatDoor.offset
  rw [h.offsets, offs_len, if_pos, Int.toNat_natCast, nth_offs p (by omega)]
  simp [inB]; omega
theorem Good.ends {p : D.Policy} (h : Good p) : (Go.Proofs.YtimfbibaoppfcaaGreatDoor.offset p (Go.Proofs.YtimfbibaoppfcaaGreatDoor.count p)).1 = Go.Proofs.YtimfbibaoppfcaaGreatDoor.offW p (Go.Proofs.YtimfbibaoppfcaaGreatDoor.count p).toNat := by
  have hc := count_le p
  have := h.offset (k := (Go.Proofs.YtimfbibaoppfcaaGreatDoor.count p).toNat) (by omega)
  rw [show ((Go.Proofs.YtimfbibaoppfcaaGreatDoor.count p).toNat : Int) = Go.Proofs.YtimfbibaoppfcaaGreatDoor.count p by omega] at this
  rw [this]
/-- The policy of one round. -/
def oneRound (p : D.Policy) : D.Policy := ⟨ByteArray.mk #[], p.Steps, 0⟩
theorem Good.one {p : D.Policy} (h : Good p) : Good (oneRound p) := ⟨h.waits, h.len1, h.len8, by show (0 : Int) ≤ 0; omega, by show (0 : Int) ≤ 8; omega⟩
theorem Good.oneEnd {p : D.Policy} (h : Good p) : (Go.Proofs.YtimfbibaoppfcaaGreatDoor.offset (oneRound p) (Go.Proofs.YtimfbibaoppfcaaGreatDoor.count (oneRound p))).1 = Go.Proofs.YtimfbibaoppfcaaGreatDoor.offW p p.Steps.length := by
  rw [h.one.ends, h.one.count]
  show Go.Proofs.YtimfbibaoppfcaaGreatDoor.offW (oneRound p) ((p.Steps.length : Int) * (0 + 1)).toNat = _
  rw [show ((p.Steps.length : Int) * (0 + 1)).toNat = p.Steps.length by omega]
  exact offW_steps (p := oneRound p) (q := p) rfl _

def cntLe (p : D.Policy) (o : Int) : Nat → Nat
  | 0 => 0
  | k + 1 => cntLe p o k + if Go.Proofs.YtimfbibaoppfcaaGreatDoor.offW p k ≤ o ∧ (k : Int) < Go.Proofs.YtimfbibaoppfcaaGreatDoor.count p then 1 else 0
theorem cntLe_le (p : D.Policy) (o : Int) : ∀ k, cntLe p o k ≤ k
  | 0 => Nat.le_refl _
  | k + 1 => by have := cntLe_le p o k; simp only [cntLe]; split <;> omega
theorem Good.cnt {p : D.Policy} (h : Good p) (o : Int) : ∀ k : Nat, (k : Int) ≤ Go.Proofs.YtimfbibaoppfcaaGreatDoor.count p → (∀ j, j < cntLe p o k → Go.Proofs.YtimfbibaoppfcaaGreatDoor.offW p j ≤ o) ∧ (cntLe p o k < k → ¬ Go.Proofs.YtimfbibaoppfcaaGreatDoor.offW p (cntLe p o k) ≤ o)
  | 0, _ => ⟨fun j hj => by simp [cntLe] at hj, fun hj => by simp [cntLe] at hj⟩
  | k + 1, hk => by
    obtain ⟨h1, h2⟩ := Good.cnt h o k (by omega)
    have hle := cntLe_le p o k
    have hc := count_le p
    simp only [cntLe]
    by_cases hq : Go.Proofs.YtimfbibaoppfcaaGreatDoor.offW p k ≤ o
    · rw [if_pos ⟨hq, by omega⟩]
      have he : cntLe p o k = k := by
        rcases Nat.lt_or_ge (cntLe p o k) k with h' | h'
        · exact absurd (Int.le_trans (h.mono (j := cntLe p o k) (k := k) (by omega) (by omega)) hq) (h2 h')
        · omega
      rw [he]
      refine ⟨fun j hj => Int.le_trans (h.mono (j := j) (k := k) (by omega) (by omega)) hq, fun hj => by omega⟩
    · rw [if_neg (fun hh => hq hh.1)]
      refine ⟨fun j hj => h1 j (by omega), fun hj => ?_⟩
      by_cases e : cntLe p o k = k
      · rw [Nat.add_zero, e]; exact hq
      · exact h2 (by omega)
theorem Good.started {p : D.Policy} (h : Good p) (o : Int) {k : Nat} (hk : (k : Int) = Go.Proofs.YtimfbibaoppfcaaGreatDoor.count p + 1) : Go.Proofs.YtimfbibaoppfcaaGreatDoor.started p o = cntLe p o k := by
  have hc := count_le p
  obtain ⟨m, rfl⟩ : ∃ m, k = m + 1 := ⟨k - 1, by omega⟩
  have hm : (m : Int) = Go.Proofs.YtimfbibaoppfcaaGreatDoor.count p := by omega
  simp only [cntLe]
  rw [if_neg (by omega), Nat.add_zero]
  obtain ⟨h1, h2⟩ := h.cnt o m (by omega)
  have hle := cntLe_le p o m
  have hl : (Go.Proofs.YtimfbibaoppfcaaGreatDoor.offsets p).length = m + 1 := by rw [h.offsets, offs_len]; omega
  have hn : ∀ j, j ≤ m → nth (Go.Proofs.YtimfbibaoppfcaaGreatDoor.offsets p) j = Go.Proofs.YtimfbibaoppfcaaGreatDoor.offW p j := fun j hj => by rw [h.offsets]; exact nth_offs p (by omega)
  refine started_eq (.inl (by omega)) (fun j hj => by rw [hn j (by omega)]; exact h1 j hj) ?_
  by_cases e : cntLe p o m = m
  · exact .inl (by omega)
  · exact .inr (by rw [hn _ (by omega)]; exact h2 (by omega))

/-! ### The books that dice make -/
theorem oneV_cases {L : List Int} {i : Nat} {l : List Int} (h : 1 ≤ l.length) : oneV L i l ∈ l := oneV_mem h
theorem stepP_wait (L : List Int) (nT i : Nat) : inB (stepP L nT i).Wait 0 86400 = true := by
  have := oneV_mem (L := L) (i := i) (l := [0, 60, 300, 600, 900]) (by simp)
  have h2 : (stepP L nT i).Wait = oneV L i [0, 60, 300, 600, 900] := rfl
  simp only [List.mem_cons, List.not_mem_nil, or_false] at this
  rw [h2]
  simp only [inB, Bool.and_eq_true, decide_eq_true_eq]
  omega
theorem steps_all {L : List Int} {nT : Nat} : ∀ (n : Nat) (ts : List D.PolicyStep) (i : Nat), (ts.all fun s => inB s.Wait 0 86400) = true → ((steps L nT n ts i).1.all fun s => inB s.Wait 0 86400) = true ∧ (steps L nT n ts i).1.length = ts.length + n
  | 0, ts, i, h => ⟨h, rfl⟩
  | n + 1, ts, i, h => by
    have := steps_all (L := L) (nT := nT) n (ts ++ [stepP L nT i]) (stepI L nT i) (by simp only [List.all_append, h, List.all_cons, stepP_wait, List.all_nil]; rfl)
    refine ⟨this.1, ?_⟩
    rw [steps]
    rw [this.2]; simp; omega
theorem policyP_good (L : List Int) (nT k i : Nat) : Good (policyP L nT k i) := by
  have h1 := steps_all (L := L) (nT := nT) (1 + nextN L (oneI L i [0, 0, 1, 2]) 3) [] (nextI L (oneI L i [0, 0, 1, 2]) 3) rfl
  have h2 := nextN_lt L (oneI L i [0, 0, 1, 2]) 3 (by omega)
  have h3 := oneV_mem (L := L) (i := i) (l := [0, 0, 1, 2]) (by simp)
  simp only [List.mem_cons, List.not_mem_nil, or_false] at h3
  have hl : (policyP L nT k i).Steps.length = 1 + nextN L (oneI L i [0, 0, 1, 2]) 3 := by
    show (policyS L nT i).1.length = _
    unfold policyS; rw [h1.2]; simp
  refine ⟨h1.1, by omega, by omega, ?_, ?_⟩
  · show 0 ≤ oneV L i [0, 0, 1, 2]; omega
  · show oneV L i [0, 0, 1, 2] ≤ 8; omega
theorem policies_good {L : List Int} {nT : Nat} : ∀ (n : Nat) (ts : List D.Policy) (i : Nat), (∀ p ∈ ts, Good p) → (∀ p ∈ (policies L nT n ts i).1, Good p) ∧ (policies L nT n ts i).1.length = ts.length + n
  | 0, ts, i, h => ⟨h, rfl⟩
  | n + 1, ts, i, h => by
    have := policies_good (L := L) (nT := nT) n (ts ++ [policyP L nT ts.length i]) (policyI L nT i) (fun p hp => by
      rcases List.mem_append.1 hp with hp | hp
      · exact h p hp
      · simp only [List.mem_singleton] at hp; rw [hp]; exact policyP_good ..)
    refine ⟨this.1, ?_⟩
    rw [policies, this.2]; simp; omega
theorem book_good (L : List Int) (i : Nat) : (∀ p ∈ (book L i).Policies, Good p) ∧ 1 ≤ (book L i).Policies.length ∧ (book L i).Policies.length ≤ 3 := by
  have h1 := policies_good (L := L) (nT := (bookT L i).1.length) (1 + nextN L (bookT L i).2 3) [] (nextI L (bookT L i).2 3) (by simp)
  have h2 := nextN_lt L (bookT L i).2 3 (by omega)
  have hl : (book L i).Policies.length = 1 + nextN L (bookT L i).2 3 := by
    show (bookP L i).1.length = _
    unfold bookP; rw [h1.2]; simp
  exact ⟨h1.1, by omega, by omega⟩
theorem cntLe_yes {p : D.Policy} {o : Int} {k : Nat} (h1 : (k : Int) < Go.Proofs.YtimfbibaoppfcaaGreatDoor.count p) (h2 : Go.Proofs.YtimfbibaoppfcaaGreatDoor.offW p k ≤ o) : cntLe p o (k + 1) = cntLe p o k + 1 := by
  simp only [cntLe]; rw [if_pos ⟨h2, h1⟩]
theorem cntLe_no {p : D.Policy} {o : Int} {k : Nat} (h : ¬ (k : Int) < Go.Proofs.YtimfbibaoppfcaaGreatDoor.count p ∨ ¬ Go.Proofs.YtimfbibaoppfcaaGreatDoor.offW p k ≤ o) : cntLe p o (k + 1) = cntLe p o k := by
  simp only [cntLe]; rw [if_neg (by intro hh; rcases h with h | h; exact h hh.2; exact h hh.1)]; rfl
end Go.Proofs.YtimfbibaoppfcaaGreatDoor
