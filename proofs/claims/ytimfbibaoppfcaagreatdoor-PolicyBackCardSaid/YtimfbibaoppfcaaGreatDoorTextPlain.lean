/-
  Texts and numerals, in plain Lean: a text cut at a byte, decimal numerals read and written. No project text.
-/
import Derived.Lib.Split
import Derived.Lib.AtoiAllCases
import Derived.Lib.ItoaLen
set_option linter.unusedSimpArgs false
set_option linter.unusedVariables false
namespace Go.Proofs.YtimfbibaoppfcaaGreatDoor
open Go
def splL (c : UInt8) : List UInt8 → List (List UInt8)
  | [] => [[]]
  | x :: r => if x = c then [] :: splL c r else match splL c r with
    | w :: ws => (x :: w) :: ws
    | [] => [[x]]
theorem splL_cons (c x : UInt8) (r : List UInt8) : splL c (x :: r) = if x = c then [] :: splL c r else match splL c r with
    | w :: ws => (x :: w) :: ws
    | [] => [[x]] := rfl
theorem splL_miss (c : UInt8) : ∀ (l : List UInt8), (∀ x ∈ l, x ≠ c) → splL c l = [l]
  | [], _ => rfl
  | x :: r, h => by
    rw [splL_cons, if_neg (h x (by simp)), splL_miss c r (fun y hy => h y (by simp [hy]))]
theorem splL_hit (c : UInt8) : ∀ (l : List UInt8) (i : Nat), l[i]? = some c → (∀ j, j < i → l[j]? ≠ some c) → splL c l = l.take i :: splL c (l.drop (i + 1))
  | [], i, h, _ => by simp at h
  | x :: r, 0, h, _ => by
    have : x = c := by simpa using h
    rw [splL_cons, if_pos this]; rfl
  | x :: r, i + 1, h, hn => by
    have hx : x ≠ c := fun e => hn 0 (by omega) (by simp [e])
    rw [splL_cons, if_neg hx, splL_hit c r i (by simpa using h) (fun j hj => by simpa using hn (j + 1) (by omega))]
    rfl
theorem splL_sep (c : UInt8) (a b : List UInt8) (h : ∀ x ∈ a, x ≠ c) : splL c (a ++ c :: b) = a :: splL c b := by
  rw [splL_hit c (a ++ c :: b) a.length (by simp) (fun j hj => by
    rw [List.getElem?_append_left hj, List.getElem?_eq_getElem hj]
    intro e
    exact h _ (List.getElem_mem hj) (by simpa using e))]
  simp
theorem occ_one {s : List UInt8} {c : UInt8} {j : Nat} : Lib.occAt s [c] j = true ↔ s[j]? = some c := by
  unfold Lib.occAt
  cases h : s.drop j with
  | nil =>
    have : s.length ≤ j := by simpa using h
    rw [List.getElem?_eq_none this]; simp
  | cons x r =>
    have : s[j]? = some x := by
      have := congrArg (·[0]?) h
      simpa using this
    rw [this]
    simp [List.isPrefixOf]
    exact eq_comm
theorem splitK_one (c : UInt8) : ∀ (n : Nat) (s : List UInt8), s.length ≤ n → Lib.splitK [c] 0 (Lib.count s [c]) s = splL c s := by
  intro n
  induction n with
  | zero =>
    intro s hs
    have : s = [] := List.eq_nil_of_length_eq_zero (by omega)
    subst this; rfl
  | succ n ih =>
    intro s hs
    rcases Lib.index_spec s [c] with ⟨h1, h2⟩ | ⟨i, h1, h2, h3, h4⟩
    · rw [Lib.count_miss h1, splL_miss]
      · rfl
      · intro x hx e
        obtain ⟨j, hj, hje⟩ := List.getElem_of_mem hx
        have := occ_one.2 (show s[j]? = some c by rw [List.getElem?_eq_getElem hj, hje, e])
        rw [h2 j (by omega)] at this; simp at this
    · have hi := occ_one.1 h3
      have hil : i < s.length := (List.getElem?_eq_some_iff.1 hi).1
      rw [Lib.count_hit (by simp) h1, Nat.add_comm 1]
      unfold Lib.splitK
      rw [h1, if_neg (by simp), splL_hit c s i hi (fun j hj e => by have := occ_one.2 e; rw [h4 j hj] at this; simp at this)]
      have := ih (s.drop (i + 1)) (by rw [List.length_drop]; omega)
      simp only [Int.toNat_natCast, Nat.add_zero, List.length_cons, List.length_nil, Nat.zero_add]
      rw [this]
def mkB (l : List UInt8) : ByteArray := ⟨l.toArray⟩
def unB (s : ByteArray) : List UInt8 := s.data.toList
@[simp] theorem mk_un (s : ByteArray) : mkB (unB s) = s := Lib.mk_data s
@[simp] theorem un_mk (l : List UInt8) : unB (mkB l) = l := rfl
theorem unB_app (a b : ByteArray) : unB (a ++ b) = unB a ++ unB b := by simp [unB]
theorem unB_len (s : ByteArray) : (unB s).length = s.size := Array.length_toList
def splB (c : UInt8) (s : ByteArray) : List ByteArray := (splL c (unB s)).map mkB
theorem splitB_one (c : UInt8) (s : ByteArray) : Lib.splitB (ByteArray.mk #[c]) 0 (Lib.countB s (ByteArray.mk #[c])) s = splB c s := by
  have h := Lib.splitB_data (ByteArray.mk #[c]) 0 (Lib.countB s (ByteArray.mk #[c])) s
  have h2 : Lib.splitK [c] 0 (Lib.count s.data.toList [c]) s.data.toList = splL c (unB s) := splitK_one c _ _ (Nat.le_refl _)
  have h3 := (congrArg (List.map mkB) (h.trans h2))
  rw [List.map_map] at h3
  rw [splB, ← h3]
  refine (List.map_id _).symm.trans (List.map_congr_left fun x _ => ?_)
  exact (Lib.mk_data x).symm
def isDig (c : UInt8) : Prop := 48 ≤ c.toNat ∧ c.toNat ≤ 57
instance (c : UInt8) : Decidable (isDig c) := inferInstanceAs (Decidable (_ ∧ _))
def valF (a : Nat) (l : List UInt8) : Nat := l.foldl (fun a c => 10 * a + (c.toNat - 48)) a
abbrev valD (l : List UInt8) : Nat := valF 0 l
theorem valF_snoc (a : Nat) (l : List UInt8) (c : UInt8) : valF a (l ++ [c]) = 10 * valF a l + (c.toNat - 48) := by simp [valF]
theorem valF_cons (a : Nat) (l : List UInt8) (c : UInt8) : valF a (c :: l) = valF (10 * a + (c.toNat - 48)) l := by unfold valF; rw [List.foldl_cons]
theorem valF_ge : ∀ (l : List UInt8) (a : Nat), a ≤ valF a l
  | [], a => Nat.le_refl _
  | c :: r, a => by rw [valF_cons]; have := valF_ge r (10 * a + (c.toNat - 48)); omega
theorem digit_nat {d : Nat} (h : d < 10) : (UInt8.ofNat (48 + d)).toNat = 48 + d := by
  rw [UInt8.toNat_ofNat']; exact Nat.mod_eq_of_lt (by omega)
theorem dec_dig (u : Nat) : ∀ c ∈ Lib.decDigits u, isDig c := by
  induction u using Nat.strongRecOn with
  | _ u ih =>
    rw [Lib.decDigits]
    split
    · rename_i h
      intro c hc
      have : c = UInt8.ofNat (48 + u) := by simpa using hc
      subst this; unfold isDig; rw [digit_nat h]; omega
    · intro c hc
      rcases List.mem_append.1 hc with hc | hc
      · exact ih (u / 10) (by omega) c hc
      · have : c = UInt8.ofNat (48 + u % 10) := by simpa using hc
        subst this; unfold isDig; rw [digit_nat (by omega)]; omega
theorem dec_val (u : Nat) : valD (Lib.decDigits u) = u := by
  induction u using Nat.strongRecOn with
  | _ u ih =>
    rw [Lib.decDigits]
    split
    · rename_i h
      simp only [valD, valF, List.foldl_cons, List.foldl_nil]; rw [digit_nat h]; omega
    · show valF 0 _ = _
      rw [valF_snoc, digit_nat (by omega), show valF 0 (Lib.decDigits (u / 10)) = u / 10 from ih _ (by omega)]
      omega
theorem dec_ne (u : Nat) : Lib.decDigits u ≠ [] := by
  rw [Lib.decDigits]; split <;> simp
theorem dec_head (u : Nat) : u = 0 ∨ ∃ c r, Lib.decDigits u = c :: r ∧ c.toNat ≠ 48 := by
  induction u using Nat.strongRecOn with
  | _ u ih =>
    by_cases h0 : u = 0
    · exact .inl h0
    · right
      rw [Lib.decDigits]
      split
      · rename_i h
        exact ⟨_, [], rfl, by rw [digit_nat h]; omega⟩
      · rcases ih (u / 10) (by omega) with h | ⟨c, r, h, hc⟩
        · omega
        · exact ⟨c, r ++ [_], by rw [h]; rfl, hc⟩
theorem parse_dig : ∀ (l : List UInt8) (a : Nat), (∀ c ∈ l, isDig c) → valF a l < 9223372036854775808 → Lib.parseUint10 a l = .ok (valF a l)
  | [], a, _, _ => rfl
  | c :: r, a, hd, h => by
    have hc := hd c (by simp)
    rw [valF_cons] at h
    have h1 := valF_ge r (10 * a + (c.toNat - 48))
    unfold Lib.parseUint10
    rw [if_pos (show 48 ≤ c.toNat ∧ c.toNat ≤ 57 from hc), if_neg (by omega), if_neg (by omega), show a * 10 + (c.toNat - 48) = 10 * a + (c.toNat - 48) by omega, parse_dig r _ (fun x hx => hd x (by simp [hx])) h]
    rfl
theorem atoi_dig {l : List UInt8} (hne : l ≠ []) (hd : ∀ c ∈ l, isDig c) (h : valD l < 9223372036854775808) : Lib.atoiAll l = .ok ((valD l : Nat) : Int) := by
  cases l with
  | nil => exact absurd rfl hne
  | cons c r =>
    have hc := hd c (by simp)
    have h43 : c.toNat ≠ 43 := by have := hc.1; omega
    have h45 : c.toNat ≠ 45 := by have := hc.1; omega
    rw [Lib.atoiAll_plain c r h43 h45, Lib.parseMag, if_neg (by simp), parse_dig _ _ hd h]
    have h2 : ¬ 9223372036854775808 ≤ valF 0 (c :: r) := by show ¬ 9223372036854775808 ≤ valD (c :: r); omega
    simp only [Lib.signless, if_neg h2]
theorem atoi_dec {u : Nat} (h : u < 9223372036854775808) : Lib.atoiAll (Lib.decDigits u) = .ok (u : Int) := by
  have := atoi_dig (dec_ne u) (dec_dig u) (by rw [dec_val]; exact h)
  rw [dec_val] at this; exact this
theorem itoa_nat (u : Nat) : Lib.itoa (u : Int) = Lib.decDigits u := by
  unfold Lib.itoa; rw [if_neg (by omega)]; rfl
end Go.Proofs.YtimfbibaoppfcaaGreatDoor
