/-
  Answers as the reference reads and writes them, in plain Lean: numerals, words; the same as the program's. No project text.
-/
import Derived.Test.YtimfbibaoppfcaaGreatDoorAnsPlain
import Derived.Test.YtimfbibaoppfcaaGreatDoorTextPlain
set_option linter.unusedSimpArgs false
set_option linter.unusedVariables false
namespace Go.Proofs.YtimfbibaoppfcaaGreatDoor
open Go AM
theorem itoaB_nat (u : Nat) : itoaB (u : Int) = mkB (Lib.decDigits u) := by unfold itoaB mkB; rw [itoa_nat]
theorem splitS_is (s : ByteArray) : splitS s = splB 32 s := splitB_one 32 s
theorem atoi_of {s : ByteArray} {u : Nat} (h : unB s = Lib.decDigits u) (hu : u < 9223372036854775808) : atoiK s = true ∧ atoiV s = (u : Int) := by
  have e : Lib.atoiAll s.data.toList = .ok (u : Int) := by
    have := atoi_dec hu
    rw [← h] at this; exact this
  exact ⟨by simp [atoiK, e], by simp [atoiV, e]⟩
theorem numOK_iff {s : ByteArray} {g : Int} (hg : g ≤ 1000000000000) : numOK s g = true ↔ ∃ u : Nat, 1 ≤ u ∧ (u : Int) ≤ g ∧ unB s = Lib.decDigits u := by
  unfold numOK
  simp only [Bool.and_eq_true, decide_eq_true_eq]
  constructor
  · rintro ⟨⟨h1, h2⟩, h3⟩
    have h4 := inB_spec h3
    refine ⟨(atoiV s).toNat, by omega, by omega, ?_⟩
    have e := itoaB_nat (atoiV s).toNat
    rw [show (((atoiV s).toNat : Nat) : Int) = atoiV s by omega, h2] at e
    exact (congrArg unB e).trans (un_mk _)
  · rintro ⟨u, h1, h2, h3⟩
    obtain ⟨k1, k2⟩ := atoi_of h3 (by omega)
    refine ⟨⟨k1, ?_⟩, ?_⟩
    · rw [k2, itoaB_nat]; exact unB_inj (by rw [un_mk, h3])
    · rw [k2]; exact inB_true ⟨by omega, by omega⟩
/-- The reference's Number. -/
def zeroB (s : ByteArray) : Bool := decide (1 < s.size) && decide (bAt s 0 = 48)
def digB' (s : ByteArray) : Bool := decide (∀ c ∈ unB s, isDig c)
def numR (s : ByteArray) (m : Int) : Int × Bool := if (decide (s.size = 0) || decide (m < ((s.size : Nat) : Int)) || zeroB s || !digB' s) = true then (0, false) else (((valD (unB s) : Nat) : Int), true)
theorem bAt_un (s : ByteArray) (i : Nat) (hi : i < s.size) : ∃ c, (unB s)[i]? = some c ∧ bAt s i = c.toNat := by
  have hl : i < (unB s).length := by rw [unB_len]; exact hi
  refine ⟨(unB s)[i], List.getElem?_eq_getElem hl, ?_⟩
  unfold bAt
  rw [getElem?_pos s i hi]
  rfl
theorem numR_iff {s : ByteArray} {m : Nat} (hm : 1 ≤ m) : (numR s m).2 = true ↔ ∃ u : Nat, u < 10 ^ m ∧ unB s = Lib.decDigits u := by
  unfold numR
  constructor
  · intro h
    split at h
    · simp at h
    · rename_i hc
      simp only [Bool.or_eq_true, decide_eq_true_eq, Bool.not_eq_true', not_or, Bool.not_eq_false] at hc
      obtain ⟨⟨⟨h1, h2⟩, h3⟩, h4⟩ := hc
      have hd : ∀ c ∈ unB s, isDig c := by simpa [digB'] using h4
      have hne : unB s ≠ [] := fun e => h1 (by rw [← unB_len, e]; rfl)
      have hb := dec_back _ (unB s) rfl hne hd (by
        rcases Nat.lt_or_ge 1 s.size with hs | hs
        · right
          intro c r e
          obtain ⟨c', k1, k2⟩ := bAt_un s 0 (by omega)
          rw [e] at k1
          have : c = c' := by simpa using k1
          subst this
          intro h48
          apply h3
          simp [zeroB, hs, k2, h48]
        · left
          rw [unB_len]; have : s.size ≠ 0 := h1; omega)
      refine ⟨valD (unB s), ?_, hb.symm⟩
      refine (dec_len hm).1 ?_
      rw [hb, unB_len]; omega
  · rintro ⟨u, hu, e⟩
    rw [if_neg]
    simp only [Bool.or_eq_true, decide_eq_true_eq, Bool.not_eq_true', not_or, Bool.not_eq_false]
    have hl : s.size = (Lib.decDigits u).length := by rw [← unB_len, e]
    have hp : 0 < s.size := by rw [hl]; exact List.length_pos_iff.2 (dec_ne u)
    refine ⟨⟨⟨by omega, ?_⟩, ?_⟩, ?_⟩
    · have := (dec_len (u := u) hm).2 hu
      omega
    · intro hz
      simp only [zeroB, Bool.and_eq_true, decide_eq_true_eq] at hz
      obtain ⟨c', k1, k2⟩ := bAt_un s 0 hp
      rw [e] at k1
      rcases dec_head u with h0 | ⟨c, r, hc, h48⟩
      · subst h0
        have hz1 : (Lib.decDigits 0).length = 1 := by rw [Lib.decDigits_length, Lib.nDigits_small (by omega)]
        omega
      · rw [hc] at k1
        have : c = c' := by simpa using k1
        subst this
        omega
    · simp only [digB', decide_eq_true_eq]; rw [e]; exact dec_dig u
theorem numR_val {s : ByteArray} {m : Int} {u : Nat} (h : (numR s m).2 = true) (e : unB s = Lib.decDigits u) : (numR s m).1 = (u : Int) := by
  unfold numR at h ⊢
  split
  · rename_i hc; rw [if_pos hc] at h; simp at h
  · show ((valD (unB s) : Nat) : Int) = _
    rw [e, dec_val]
/-- A number from 1 to 10^m - 1 or less, both ways. -/
theorem num_same {s : ByteArray} {m : Nat} {g : Int} (hm : 1 ≤ m) (hg : g < 10 ^ m) (hm2 : m ≤ 12) : ((numR s m).2 && inB (numR s m).1 1 g) = numOK s g := by
  have hg2 : g ≤ 1000000000000 := by
    have : (10 : Int) ^ m ≤ 10 ^ 12 := by
      have := Nat.pow_le_pow_right (show 0 < 10 by omega) hm2
      have h2 : ((10 ^ m : Nat) : Int) ≤ ((10 ^ 12 : Nat) : Int) := by exact_mod_cast this
      simpa using h2
    have h3 : (10 : Int) ^ 12 = 1000000000000 := by decide
    omega
  rw [Bool.eq_iff_iff, numOK_iff hg2, Bool.and_eq_true]
  constructor
  · rintro ⟨h1, h2⟩
    obtain ⟨u, hu, e⟩ := (numR_iff hm).1 h1
    rw [numR_val h1 e] at h2
    have := inB_spec h2
    exact ⟨u, by omega, by omega, e⟩
  · rintro ⟨u, h1, h2, e⟩
    have hlt : u < 10 ^ m := by
      have : (u : Int) < 10 ^ m := by omega
      exact_mod_cast this
    have h3 := (numR_iff (s := s) hm).2 ⟨u, hlt, e⟩
    refine ⟨h3, ?_⟩
    rw [numR_val h3 e]
    exact inB_true ⟨by omega, by omega⟩
theorem num_value {s : ByteArray} {m g : Int} (h : (numR s m).2 = true) (h' : numOK s g = true) (hg : g ≤ 1000000000000) : (numR s m).1 = atoiV s := by
  obtain ⟨u, h1, h2, e⟩ := (numOK_iff hg).1 h'
  rw [numR_val h e, (atoi_of e (by omega)).2]
/-! ### Four digits -/
theorem digB_four {n : Nat} (h : n < 10000) : digB (n : Int) = mkB (four n) := by
  have e : itoaB (10000 + (n : Int)) = mkB (UInt8.ofNat 49 :: four n) := by
    rw [show (10000 : Int) + (n : Int) = ((10000 + n : Nat) : Int) by omega, itoaB_nat, dec_four h]
  unfold digB
  rw [e]
  rfl
theorem codeOK_iff (s : ByteArray) : codeOK s = (decide (s.size = 4) && digB' s) := by
  rw [Bool.eq_iff_iff]
  unfold codeOK digB'
  simp only [Bool.and_eq_true, decide_eq_true_eq]
  constructor
  · rintro ⟨⟨⟨h1, h2⟩, h3⟩, h4⟩
    have h5 := (atoiV_le h1 (Nat.le_of_eq h2)).2
    have h6 : atoiV s < 10000 := by simpa using h5
    refine ⟨h2, ?_⟩
    have e := digB_four (n := (atoiV s).toNat) (by omega)
    rw [show (((atoiV s).toNat : Nat) : Int) = atoiV s by omega, h4] at e
    rw [e, un_mk]
    exact four_dig (by omega)
  · rintro ⟨h1, h2⟩
    have hl : (unB s).length = 4 := by rw [unB_len]; exact h1
    obtain ⟨h3, h4⟩ := four_val hl h2
    have hne : unB s ≠ [] := fun e => by rw [e] at hl; simp at hl
    have hA : Lib.atoiAll s.data.toList = .ok ((valD (unB s) : Nat) : Int) := atoi_dig (l := unB s) hne h2 (by omega)
    have k1 : atoiK s = true := by simp [atoiK, hA]
    have k2 : atoiV s = ((valD (unB s) : Nat) : Int) := by simp [atoiV, hA]
    refine ⟨⟨⟨k1, h1⟩, by omega⟩, ?_⟩
    rw [k2, digB_four h3, h4, mk_un]
theorem digB_parts {n : Int} (h0 : 0 ≤ n) (h1 : n ≤ 9999) : ((itoaB (n / 1000) ++ itoaB (n / 100 % 10)) ++ itoaB (n / 10 % 10)) ++ itoaB (n % 10) = digB n := by
  obtain ⟨k, rfl⟩ : ∃ k : Nat, n = (k : Int) := ⟨n.toNat, by omega⟩
  rw [digB_four (by omega), show (k : Int) / 1000 = ((k / 1000 : Nat) : Int) by omega, show (k : Int) / 100 % 10 = ((k / 100 % 10 : Nat) : Int) by omega, show (k : Int) / 10 % 10 = ((k / 10 % 10 : Nat) : Int) by omega, show (k : Int) % 10 = ((k % 10 : Nat) : Int) by omega]
  rw [itoaB_nat, itoaB_nat, itoaB_nat, itoaB_nat, Lib.decDigits, dif_pos (by omega), Lib.decDigits, dif_pos (by omega), Lib.decDigits, dif_pos (by omega), Lib.decDigits, dif_pos (by omega), ← mkB_app, ← mkB_app, ← mkB_app]
  rfl
/-! ### Decimal, from the right -/
/-- What Decimal has made of n when m is left: s stands behind it. -/
def decInv (n m : Int) (s : ByteArray) : Prop := 0 ≤ m ∧ (s = b0 ∧ m = n ∨ s ≠ b0 ∧ itoaB n = (if m = 0 then s else itoaB m ++ s))
theorem decInv_step {n m : Int} {s : ByteArray} (h : decInv n m s) (hc : 0 < m ∨ s = b0) : decInv n (m / 10) (ByteArray.mk #[UInt8.ofNat (48 + m % 10).toNat] ++ s) := by
  obtain ⟨h0, h⟩ := h
  have hm : 0 ≤ m / 10 := by omega
  have e1 : ByteArray.mk #[UInt8.ofNat (48 + m % 10).toNat] = mkB [UInt8.ofNat (48 + (m.toNat % 10))] := by
    rw [show (48 + m % 10).toNat = 48 + m.toNat % 10 by omega]; rfl
  rw [e1]
  have key : itoaB m = (if m / 10 = 0 then mkB [UInt8.ofNat (48 + (m.toNat % 10))] else itoaB (m / 10) ++ mkB [UInt8.ofNat (48 + (m.toNat % 10))]) := by
    obtain ⟨k, rfl⟩ : ∃ k : Nat, m = (k : Int) := ⟨m.toNat, by omega⟩
    rw [itoaB_nat, Lib.decDigits]
    by_cases hk : k < 10
    · rw [dif_pos hk, if_pos (by omega), Int.toNat_natCast, Nat.mod_eq_of_lt hk]
    · rw [dif_neg hk, if_neg (by omega), mkB_app, ← itoaB_nat, Int.toNat_natCast]; rfl
  have hne : mkB [UInt8.ofNat (48 + (m.toNat % 10))] ++ s ≠ b0 := fun e => by
    have := congrArg ByteArray.size e
    rw [ByteArray.size_append] at this
    have h1 : (mkB [UInt8.ofNat (48 + (m.toNat % 10))]).size = 1 := rfl
    have h2 : b0.size = 0 := rfl
    omega
  refine ⟨hm, .inr ⟨hne, ?_⟩⟩
  rcases h with ⟨h1, h2⟩ | ⟨h1, h2⟩
  · subst h2
    have es : mkB [UInt8.ofNat (48 + (m.toNat % 10))] ++ s = mkB [UInt8.ofNat (48 + (m.toNat % 10))] := unB_inj (by rw [unB_app, h1]; simp [unB, b0])
    rw [es, key]
  · have hm0 : ¬ m = 0 := by
      rcases hc with hc | hc
      · omega
      · exact absurd hc h1
    rw [h2, if_neg hm0, key]
    split
    · rfl
    · rw [ByteArray.append_assoc]
theorem decInv_end {n m : Int} {s : ByteArray} (h : decInv n m s) (h1 : ¬ 0 < m) (h2 : ¬ s = b0) : s = itoaB n := by
  obtain ⟨h0, h | ⟨_, h⟩⟩ := h
  · exact absurd h.1 h2
  · rw [h, if_pos (by omega)]
theorem decInv_start {n : Int} (h : 0 ≤ n) : decInv n n b0 := ⟨h, .inl ⟨rfl, rfl⟩⟩
theorem decInv_size {n m : Int} {s : ByteArray} (h : decInv n m s) (hn0 : 0 ≤ n) (hn : n ≤ 9223372036854775807) : s.size ≤ 21 := by
  obtain ⟨h0, ⟨h, _⟩ | ⟨_, h⟩⟩ := h
  · rw [h]; decide
  · have h2 := itoaB_size n (by omega) hn
    rw [h] at h2
    split at h2
    · exact h2
    · rw [ByteArray.size_append] at h2; omega
theorem decInv_m {n m : Int} {s : ByteArray} (h : decInv n m s) : 0 ≤ m := h.1
def decM (m : Int) (s : ByteArray) : Nat := m.toNat + if s = b0 then 1 else 0
theorem decM_step {m : Int} {x s : ByteArray} (hx : 1 ≤ x.size) (hm : 0 ≤ m) (h : 0 < m ∨ s = b0) : decM (m / 10) (x ++ s) < decM m s := by
  have hne : x ++ s ≠ b0 := fun e => by
    have := congrArg ByteArray.size e
    rw [ByteArray.size_append] at this
    have h2 : b0.size = 0 := rfl
    omega
  unfold decM
  rw [if_neg hne]
  rcases h with h | h
  · split <;> omega
  · rw [if_pos h]; omega
/-! ### Number -/
theorem digB_all {s : ByteArray} : digB' s = true ↔ ∀ i, i < s.size → 48 ≤ bAt s i ∧ bAt s i ≤ 57 := by
  unfold digB'
  rw [decide_eq_true_eq]
  constructor
  · intro h i hi
    obtain ⟨c, k1, k2⟩ := bAt_un s i hi
    have := h c (List.mem_of_getElem? k1)
    rw [k2]; exact this
  · intro h c hc
    obtain ⟨i, hi, e⟩ := List.getElem_of_mem hc
    have hi' : i < s.size := by rw [← unB_len]; exact hi
    obtain ⟨c', k1, k2⟩ := bAt_un s i hi'
    rw [List.getElem?_eq_getElem hi, e] at k1
    have : c = c' := by simpa using k1
    subst this
    have := h i hi'
    rw [k2] at this; exact this
theorem numR_no {s : ByteArray} {m : Int} (h : s = b0 ∨ m < ((s.size : Nat) : Int) ∨ (1 < s.size ∧ bAt s 0 = 48) ∨ ∃ i, i < s.size ∧ ¬ (48 ≤ bAt s i ∧ bAt s i ≤ 57)) : numR s m = (0, false) := by
  unfold numR
  rw [if_pos]
  simp only [Bool.or_eq_true, decide_eq_true_eq, Bool.not_eq_true']
  rcases h with h | h | h | ⟨i, h1, h2⟩
  · left; left; left; rw [h]; rfl
  · left; left; right; exact h
  · left; right; simp [zeroB, h.1, h.2]
  · right
    refine Bool.eq_false_iff.2 fun h' => h2 (digB_all.1 h' i h1)
theorem numR_yes {s : ByteArray} {m : Int} (h1 : ¬ s = b0) (h2 : ¬ m < ((s.size : Nat) : Int)) (h3 : ¬ (1 < s.size ∧ bAt s 0 = 48)) (h4 : ∀ i, i < s.size → 48 ≤ bAt s i ∧ bAt s i ≤ 57) : numR s m = (((valD (unB s) : Nat) : Int), true) := by
  unfold numR
  rw [if_neg]
  simp only [Bool.or_eq_true, decide_eq_true_eq, Bool.not_eq_true', not_or, Bool.not_eq_false]
  refine ⟨⟨⟨fun e => h1 ?_, h2⟩, fun e => h3 ?_⟩, digB_all.2 h4⟩
  · have : unB s = [] := List.eq_nil_of_length_eq_zero (by rw [unB_len]; exact e)
    exact unB_inj this
  · simpa [zeroB] using e
def valT (s : ByteArray) (i : Nat) : Nat := valD ((unB s).take i)
theorem valT_zero (s : ByteArray) : valT s 0 = 0 := rfl
theorem valT_step {s : ByteArray} {i : Nat} (h : i < s.size) : valT s (i + 1) = 10 * valT s i + (bAt s i - 48) := by
  obtain ⟨c, k1, k2⟩ := bAt_un s i h
  unfold valT
  rw [List.take_add_one, k1, k2]
  show valF 0 _ = _
  rw [Option.toList_some, valF_snoc]
theorem valT_all (s : ByteArray) : valT s s.size = valD (unB s) := by
  unfold valT; rw [List.take_of_length_le (by rw [unB_len]; exact Nat.le_refl _)]
theorem valT_lt {s : ByteArray} {i : Nat} (hi : i ≤ 12) (hl : i ≤ s.size) (h : ∀ j, j < i → 48 ≤ bAt s j ∧ bAt s j ≤ 57) : valT s i < 1000000000000 := by
  have h1 := valF_lt ((unB s).take i) 0 (fun c hc => by
    obtain ⟨j, hj, e⟩ := List.getElem_of_mem hc
    have hj' : j < i := by rw [List.length_take] at hj; omega
    obtain ⟨c', k1, k2⟩ := bAt_un s j (by omega)
    have e2 : (unB s)[j]? = some c := by
      have := List.getElem?_eq_getElem hj
      rw [e, List.getElem?_take, if_pos hj'] at this
      exact this
    rw [k1] at e2
    have : c' = c := by simpa using e2
    subst this
    have := h j hj'
    rw [k2] at this; exact this)
  have h2 : 10 ^ ((unB s).take i).length ≤ 10 ^ 12 := Nat.pow_le_pow_right (by omega) (by rw [List.length_take]; omega)
  have h3 : (10 : Nat) ^ 12 = 1000000000000 := by decide
  show valF 0 _ < _
  omega
theorem num6 (s : ByteArray) : ((numR s 6).2 && decide (1 ≤ (numR s 6).1)) = numOK s 999999 := by
  rw [← num_same (s := s) (m := 6) (g := 999999) (by omega) (by decide) (by omega), Bool.eq_iff_iff]
  simp only [Bool.and_eq_true, decide_eq_true_eq]
  constructor
  · rintro ⟨h1, h2⟩
    obtain ⟨u, hu, e⟩ := (numR_iff (m := 6) (by omega)).1 h1
    have h3 := numR_val h1 e
    refine ⟨h1, inB_true ⟨h2, ?_⟩⟩
    have : (numR s ((6 : Nat) : Int)).1 = (u : Int) := h3
    simp at this hu
    rw [show ((6 : Nat) : Int) = 6 from rfl, this]; omega
  · rintro ⟨h1, h2⟩
    exact ⟨h1, (inB_spec h2).1⟩
/-! ### The words of an answer, both ways -/
def kindU (w : ByteArray) (k : Nat) : Int := if kindV w < ((k : Nat) : Int) then kindV w else 0
theorem verb_is {w : ByteArray} {k : Nat} (h1 : 1 ≤ k) (h5 : k ≤ 5) : w = verbV ((k : Nat) : Int) ↔ kindV w = ((k : Nat) : Int) := by
  have : k = 1 ∨ k = 2 ∨ k = 3 ∨ k = 4 ∨ k = 5 := by omega
  rcases this with rfl | rfl | rfl | rfl | rfl
  all_goals
    constructor
    · intro h; subst h; decide
    · intro h
      unfold kindV at h
      repeat' split at h
      all_goals first | (exfalso; omega) | (simp only [*]; decide)
theorem kindU_hit {w : ByteArray} {k : Nat} (h1 : 1 ≤ k) (h5 : k ≤ 5) (h : w = verbV ((k : Nat) : Int)) : kindU w (k + 1) = ((k : Nat) : Int) := by
  have := (verb_is h1 h5).1 h
  unfold kindU; rw [if_pos (by omega)]; exact this
theorem kindU_miss {w : ByteArray} {k : Nat} (h1 : 1 ≤ k) (h5 : k ≤ 5) (h : ¬ w = verbV ((k : Nat) : Int)) : kindU w (k + 1) = kindU w k := by
  have : ¬ kindV w = ((k : Nat) : Int) := fun e => h ((verb_is h1 h5).2 e)
  unfold kindU; split <;> split <;> first | rfl | (exfalso; omega)
theorem kindU_end (w : ByteArray) {k : Nat} (h : 6 ≤ k) : kindU w k = kindV w := by
  have := kindV_le w
  unfold kindU; rw [if_pos (by omega)]
theorem kindU_start (w : ByteArray) : kindU w 1 = 0 := by
  have := kindV_le w
  unfold kindU; split
  · omega
  · rfl
theorem nWords_4 {k : Int} (h : k = 3 ∨ k = 4) : nWords k = 4 := if_pos h
theorem nWords_3 {k : Int} (h : ¬ (k = 3 ∨ k = 4)) : nWords k = 3 := if_neg h
theorem badR (w : List ByteArray) (k : Int) : badW w k = (decide (k = 0) || !decide (((w.length : Nat) : Int) = ((nWords k : Nat) : Int)) || decide (nth w (nWords k - 1) = b0) || !(decide ((nth w 2).size = 4) && digB' (nth w 2)) ||
    !((numR (nth w 1) 6).2 && decide (1 ≤ (numR (nth w 1) 6).1)) || (decide (k = 3) && !((numR (nth w 3) 9).2 && inB (numR (nth w 3) 9).1 1 86400))) := by
  unfold badW
  rw [codeOK_iff, num6, show ((numR (nth w 3) 9).2 && inB (numR (nth w 3) 9).1 1 86400) = numOK (nth w 3) 86400 from num_same (m := 9) (by omega) (by decide) (by omega)]
theorem badR_true {w : List ByteArray} {k : Int} (h : k = 0 ∨ ((w.length : Nat) : Int) ≠ ((nWords k : Nat) : Int) ∨ nth w (nWords k - 1) = b0 ∨ (nth w 2).size ≠ 4 ∨ (∃ i, i < (nth w 2).size ∧ ¬ (48 ≤ bAt (nth w 2) i ∧ bAt (nth w 2) i ≤ 57)) ∨
    (numR (nth w 1) 6).2 = false ∨ (numR (nth w 1) 6).1 < 1 ∨ (k = 3 ∧ ((numR (nth w 3) 9).2 = false ∨ inB (numR (nth w 3) 9).1 1 86400 = false))) : badW w k = true := by
  rw [badR]
  rcases h with h | h | h | h | ⟨i, h1, h2⟩ | h | h | ⟨h1, h2 | h2⟩
  · simp [h]
  · simp [h]
  · simp [h]
  · simp [h]
  · have : digB' (nth w 2) = false := Bool.eq_false_iff.2 fun h' => h2 (digB_all.1 h' i h1)
    simp [this]
  · simp [h]
  · have : ¬ 1 ≤ (numR (nth w 1) 6).1 := by omega
    simp [this]
  · simp [h1, h2]
  · simp [h1, h2]
theorem badR_false {w : List ByteArray} {k : Int} (h0 : ¬ k = 0) (h1 : ((w.length : Nat) : Int) = ((nWords k : Nat) : Int)) (h2 : ¬ nth w (nWords k - 1) = b0) (h3 : (nth w 2).size = 4) (h4 : ∀ i, i < (nth w 2).size → 48 ≤ bAt (nth w 2) i ∧ bAt (nth w 2) i ≤ 57)
    (h5 : (numR (nth w 1) 6).2 = true) (h6 : 1 ≤ (numR (nth w 1) 6).1) (h7 : k = 3 → (numR (nth w 3) 9).2 = true ∧ inB (numR (nth w 3) 9).1 1 86400 = true) : badW w k = false := by
  rw [badR, digB_all.2 h4]
  by_cases hk : k = 3
  · obtain ⟨g1, g2⟩ := h7 hk
    simp [h0, h1, h2, h3, h5, h6, g1, g2]
  · simp [h0, h1, h2, h3, h5, h6, hk]
theorem good_page {w : List ByteArray} {k : Int} (h : badW w k = false) : (numR (nth w 1) 6).1 = atoiV (nth w 1) := by
  have h1 := h
  rw [badR] at h1
  simp only [Bool.or_eq_false_iff, Bool.not_eq_false', Bool.and_eq_true] at h1
  unfold badW at h
  simp only [Bool.or_eq_false_iff, Bool.not_eq_false'] at h
  exact num_value h1.1.2.1 h.1.2 (by omega)
theorem good_arg {w : List ByteArray} (h : badW w 3 = false) : (numR (nth w 3) 9).1 = atoiV (nth w 3) := by
  have h1 := h
  rw [badR] at h1
  simp only [Bool.or_eq_false_iff, Bool.not_eq_false', Bool.and_eq_true, decide_true, Bool.true_and] at h1
  unfold badW at h
  simp only [Bool.or_eq_false_iff, Bool.not_eq_false', decide_true, Bool.true_and] at h
  exact num_value h1.2.1 h.2 (by omega)
theorem ansCode_nn {p q : Int} (hp : inB p 1 999999 = true) (hq : inB q 0 31 = true) : 0 ≤ ansCode p q ∧ ansCode p q ≤ 9999 := by
  unfold ansCode; rw [hp, hq]; simp only [Bool.and_self, if_true]; omega
/-! ### Which answers are valid -/
theorem ansV_pre {a : D.Answer} (h : inB a.ID 1 999999 = false ∨ inB a.Page 1 999999 = false ∨ inB a.Person (-1) 31 = false ∨ inB a.At 0 8589934592 = false) : ansValid a = false := by
  unfold ansValid
  rcases h with h | h | h | h <;> simp [h]
theorem ansV_kind {a : D.Answer} {q : Bool} (h1 : inB a.ID 1 999999 = true) (h2 : inB a.Page 1 999999 = true) (h3 : inB a.Person (-1) 31 = true) (h4 : inB a.At 0 8589934592 = true)
    (h : ((a.Kind = 1 ∨ a.Kind = 2 ∨ a.Kind = 5) ∧ q = decide (a.Arg = 0)) ∨ (a.Kind = 3 ∧ q = inB a.Arg 1 86400) ∨ (a.Kind = 4 ∧ q = inB a.Arg 0 31) ∨ (¬ a.Kind = 1 ∧ ¬ a.Kind = 2 ∧ ¬ a.Kind = 5 ∧ ¬ a.Kind = 3 ∧ ¬ a.Kind = 4 ∧ q = false)) : ansValid a = q := by
  unfold ansValid
  rw [h1, h2, h3, h4]
  simp only [Bool.true_and]
  rcases h with ⟨hk, rfl⟩ | ⟨hk, rfl⟩ | ⟨hk, rfl⟩ | ⟨k1, k2, k3, k4, k5, rfl⟩
  · have e1 : ansLow a.Kind = 0 := if_neg (by omega)
    have e2 : ansHigh a.Kind = 0 := by unfold ansHigh; rw [if_neg (by omega), if_neg (by omega)]
    rw [inB_true (by omega), e1, e2, Bool.true_and, Bool.eq_iff_iff, inB_iff, decide_eq_true_eq]; omega
  · rw [inB_true (by omega), hk]; rfl
  · rw [inB_true (by omega), hk]; rfl
  · rw [inB_no (by omega)]; rfl
/-! ### Persons, the last one of a name -/
def lastP (ps : List D.Person) (t : ByteArray) : Nat → Int
  | 0 => -1
  | i + 1 => if (nth ps i).Name = t then ((i : Nat) : Int) else lastP ps t i
theorem lastP_hit {ps : List D.Person} {t : ByteArray} {i : Nat} (h : (nth ps i).Name = t) : lastP ps t (i + 1) = ((i : Nat) : Int) := if_pos h
theorem lastP_miss {ps : List D.Person} {t : ByteArray} {i : Nat} (h : ¬ (nth ps i).Name = t) : lastP ps t (i + 1) = lastP ps t i := if_neg h
theorem lastP_le (ps : List D.Person) (t : ByteArray) : ∀ i : Nat, -1 ≤ lastP ps t i ∧ lastP ps t i < ((i : Nat) : Int) ∨ lastP ps t i = -1
  | 0 => .inr rfl
  | i + 1 => by
    unfold lastP; split
    · left; omega
    · rcases lastP_le ps t i with h | h
      · left; omega
      · right; exact h
theorem lastP_none {ps : List D.Person} {t : ByteArray} : ∀ {i : Nat}, (∀ j, j < i → (nth ps j).Name ≠ t) → lastP ps t i = -1
  | 0, _ => rfl
  | i + 1, h => by unfold lastP; rw [if_neg (h i (by omega))]; exact lastP_none fun j hj => h j (by omega)
theorem lastP_one {ps : List D.Person} {t : ByteArray} {f : Nat} (hf : (nth ps f).Name = t) : ∀ {i : Nat}, f < i → (∀ j, f < j → j < i → (nth ps j).Name ≠ t) → lastP ps t i = ((f : Nat) : Int)
  | 0, h, _ => by omega
  | i + 1, h, hn => by
    unfold lastP
    by_cases e : f = i
    · subst e; rw [if_pos hf]
    · rw [if_neg (hn i (by omega) (by omega))]; exact lastP_one hf (by omega) fun j h1 h2 => hn j h1 (by omega)
theorem findP_spec : ∀ (ps : List D.Person) (t : ByteArray), (∀ j, j < findP ps t → (nth ps j).Name ≠ t) ∧ (findP ps t < ps.length → (nth ps (findP ps t)).Name = t)
  | [], t => ⟨fun j hj => by simp [findP] at hj, fun h => by simp [findP] at h⟩
  | p :: r, t => by
    have ih := findP_spec r t
    by_cases h : p.Name = t
    · have e : findP (p :: r) t = 0 := by unfold findP; rw [if_pos h]
      rw [e]; exact ⟨fun j hj => by omega, fun _ => h⟩
    · have e : findP (p :: r) t = findP r t + 1 := by conv => lhs; unfold findP
                                                      rw [if_neg h]
      rw [e]
      refine ⟨fun j hj => ?_, fun hl => ?_⟩
      · cases j with
        | zero => exact h
        | succ j => exact ih.1 j (by omega)
      · exact ih.2 (by simpa using hl)
theorem CfgOK.nmd {c : D.Config} (h : CfgOK c) {i j : Nat} (hi : i < 4) (hj : j < 4) (e : (nth c.People i).Name = (nth c.People j).Name) : i = j := by
  have key : ∀ i, i < 4 → crewNames[i]? = some (nth c.People i).Name := fun i hi => by
    have hi' : i < c.People.length := by rw [h.plen]; exact hi
    have h1 : c.People[i]? = some (nth c.People i) := by simp [nth, List.getD_eq_getElem?_getD, List.getElem?_eq_getElem hi']
    have h2 : (c.People.map (·.Name))[i]? = some (nth c.People i).Name := by rw [List.getElem?_map, h1]; rfl
    rwa [h.pname] at h2
  have h1 := key i hi
  have h2 := key j hj
  rw [e, ← h2] at h1
  have hl : crewNames.length = 4 := rfl
  have hi4 : i = 0 ∨ i = 1 ∨ i = 2 ∨ i = 3 := by omega
  have hj4 : j = 0 ∨ j = 1 ∨ j = 2 ∨ j = 3 := by omega
  rcases hi4 with rfl | rfl | rfl | rfl <;> rcases hj4 with rfl | rfl | rfl | rfl <;> first | rfl | (exfalso; revert h1; decide)
theorem lastP_person {c : D.Config} (h : CfgOK c) (t : ByteArray) : lastP c.People t c.People.length = (if (person c.People t).2 = true then (person c.People t).1 else -1) := by
  obtain ⟨h1, h2⟩ := findP_spec c.People t
  unfold person
  by_cases hl : findP c.People t < c.People.length
  · rw [if_pos hl]
    simp only [if_true]
    have hf := h2 hl
    refine lastP_one hf hl fun j k1 k2 e => ?_
    have := h.nmd (i := findP c.People t) (j := j) (by rw [← h.plen]; exact hl) (by rw [← h.plen]; exact k2) (hf.trans e.symm)
    omega
  · rw [if_neg hl]
    simp only [Bool.false_eq_true, if_false]
    have hle := findP_le c.People t
    exact lastP_none fun j hj => h1 j (by omega)
/-! ### A text cut step by step -/
theorem splB_start (c : UInt8) (t : ByteArray) : splB c (t.extract 0 0) = [b0] := by
  have : unB (t.extract 0 0) = [] := List.eq_nil_of_length_eq_zero (by rw [unB_len, ByteArray.size_extract]; simp)
  unfold splB; rw [this]; rfl
theorem extract_snoc {t : ByteArray} {i : Nat} (h : i < t.size) : ∃ x, unB (t.extract 0 (i + 1)) = unB (t.extract 0 i) ++ [x] ∧ bAt t i = x.toNat ∧ unB (t.extract i (i + 1)) = [x] := by
  obtain ⟨x, k1, k2⟩ := bAt_un t i h
  have e : ∀ k, unB (t.extract 0 k) = (unB t).take k := fun k => Lib.extract_from_zero t k
  refine ⟨x, ?_, k2, ?_⟩
  · rw [e, e, List.take_add_one, k1]; rfl
  · have := Lib.extract_eq t i (i + 1)
    have h2 : unB (t.extract i (i + 1)) = ((unB t).drop i).take 1 := by
      rw [this]; simp [unB]
    rw [h2]
    have h3 : ((unB t).drop i)[0]? = some x := by simpa using k1
    cases hd : (unB t).drop i with
    | nil => rw [hd] at h3; simp at h3
    | cons y r => rw [hd] at h3; simp at h3; subst h3; rfl
theorem splB_sep {c : Nat} (hc : c < 256) {t : ByteArray} {i : Nat} (h : i < t.size) (e : bAt t i = c) : splB (UInt8.ofNat c) (t.extract 0 (i + 1)) = splB (UInt8.ofNat c) (t.extract 0 i) ++ [b0] := by
  obtain ⟨x, h1, h2, _⟩ := extract_snoc h
  have hx : x = UInt8.ofNat c := by rw [← e, h2, UInt8.ofNat_toNat]
  subst hx
  unfold splB
  rw [h1, splL_snoc_sep, List.map_append]; rfl
theorem splB_len (c : UInt8) (s : ByteArray) : 1 ≤ (splB c s).length := by
  unfold splB; rw [List.length_map]; exact List.length_pos_iff.2 (splL_ne _ _)
theorem splB_snoc {c : Nat} (hc : c < 256) {t : ByteArray} {i : Nat} (h : i < t.size) (e : ¬ bAt t i = c) :
    splB (UInt8.ofNat c) (t.extract 0 (i + 1)) = (splB (UInt8.ofNat c) (t.extract 0 i)).set ((splB (UInt8.ofNat c) (t.extract 0 i)).length - 1) (nth (splB (UInt8.ofNat c) (t.extract 0 i)) ((splB (UInt8.ofNat c) (t.extract 0 i)).length - 1) ++ t.extract i (i + 1)) := by
  obtain ⟨x, h1, h2, h3⟩ := extract_snoc h
  have hx : x ≠ UInt8.ofNat c := fun hx => e (by rw [h2, hx, UInt8.toNat_ofNat']; exact Nat.mod_eq_of_lt hc)
  have hw : t.extract i (i + 1) = mkB [x] := unB_inj h3
  have hne := splL_ne (UInt8.ofNat c) (unB (t.extract 0 i))
  have hl : 0 < (splL (UInt8.ofNat c) (unB (t.extract 0 i))).length := List.length_pos_iff.2 hne
  unfold splB
  rw [h1, splL_snoc _ _ hx, List.map_set, List.length_map, hw]
  congr 1
  rw [mkB_app]
  congr 1
  generalize splL (UInt8.ofNat c) (unB (t.extract 0 i)) = L at hl ⊢
  have hw2 : L[L.length - 1]? = some L[L.length - 1] := List.getElem?_eq_getElem (by omega)
  simp only [nth, List.getD_eq_getElem?_getD, List.getElem?_map, hw2, Option.map_some, Option.getD_some]
theorem splL_size (c : UInt8) : ∀ (l w : List UInt8), w ∈ splL c l → w.length ≤ l.length
  | [], w, h => by simp [splL] at h; subst h; simp
  | x :: r, w, h => by
    have ih := splL_size c r
    rw [splL_cons] at h
    split at h
    · rcases List.mem_cons.1 h with rfl | h
      · simp
      · have := ih w h; simp only [List.length_cons]; omega
    · cases hs : splL c r with
      | nil => exact absurd hs (splL_ne c r)
      | cons y ys =>
        rw [hs] at h ih
        rcases List.mem_cons.1 h with rfl | h
        · have := ih y (by simp); simp only [List.length_cons]; omega
        · have := ih w (by simp [h]); simp only [List.length_cons]; omega
theorem splB_size (c : UInt8) (s : ByteArray) (k : Nat) (hk : k < (splB c s).length) : (nth (splB c s) k).size ≤ s.size := by
  have hm := nth_mem hk
  unfold splB at hm ⊢
  obtain ⟨w, hw, e⟩ := List.mem_map.1 hm
  rw [← e, mkB_size, ← unB_len s]
  exact splL_size c _ w hw
theorem splL_len (c : UInt8) : ∀ l, (splL c l).length ≤ l.length + 1
  | [] => by simp [splL]
  | x :: r => by
    have ih := splL_len c r
    rw [splL_cons]
    split
    · simp only [List.length_cons]; omega
    · cases hs : splL c r with
      | nil => simp
      | cons y ys => rw [hs] at ih; simp only [List.length_cons] at ih ⊢; omega
theorem splB_len_le (c : UInt8) (s : ByteArray) (k : Nat) (h : s.size ≤ k) : (splB c s).length ≤ k + 1 := by
  unfold splB; rw [List.length_map]
  have := splL_len c (unB s)
  rw [unB_len] at this; omega
theorem extract_all (t : ByteArray) : t.extract 0 t.size = t := unB_inj (by
  have : unB (t.extract 0 t.size) = (unB t).take t.size := Lib.extract_from_zero t _
  rw [this, List.take_of_length_le (by rw [unB_len]; exact Nat.le_refl _)])
theorem verb_nth {k : Int} (h0 : 0 ≤ k) (h5 : k ≤ 5) : verbV k = nth ([(ByteArray.mk #[]), (ByteArray.mk #[97, 99, 107]), (ByteArray.mk #[100, 101, 99, 108, 105, 110, 101]), (ByteArray.mk #[115, 110, 111, 111, 122, 101]), (ByteArray.mk #[104, 97, 110, 100]), (ByteArray.mk #[114, 101, 115, 111, 108, 118, 101])] : List ByteArray) k.toNat := by
  have : k = 0 ∨ k = 1 ∨ k = 2 ∨ k = 3 ∨ k = 4 ∨ k = 5 := by omega
  rcases this with rfl | rfl | rfl | rfl | rfl | rfl <;> rfl
theorem person_nn (ps : List D.Person) (t : ByteArray) : 0 ≤ (person ps t).1 := by
  unfold person; split <;> simp
theorem person_t {ps : List D.Person} {t : ByteArray} {x : Int} (h : x = (if (person ps t).2 = true then (person ps t).1 else -1)) (hx : 0 ≤ x) : (person ps t).2 = true := by
  by_cases e : (person ps t).2 = true
  · exact e
  · rw [if_neg e] at h; omega
theorem person_f {ps : List D.Person} {t : ByteArray} {x : Int} (h : x = (if (person ps t).2 = true then (person ps t).1 else -1)) (hx : x < 0) : (person ps t).2 = false := by
  have := person_nn ps t
  by_cases e : (person ps t).2 = true
  · rw [if_pos e] at h; omega
  · simpa using e
theorem good_pg {w : List ByteArray} {k : Int} (h : badW w k = false) : 1 ≤ atoiV (nth w 1) ∧ atoiV (nth w 1) ≤ 999999 := by
  unfold badW at h
  simp only [Bool.or_eq_false_iff, Bool.not_eq_false'] at h
  have h1 := h.1.2
  unfold numOK at h1
  simp only [Bool.and_eq_true] at h1
  exact inB_spec h1.2
end Go.Proofs.YtimfbibaoppfcaaGreatDoor
