/-
  Names and crews (small configurations), in plain Lean.
-/
import Derived.Test.YtimfbibaoppfcaaGreatDoorGrowLaw
import Derived.Test.YtimfbibaoppfcaaGreatDoorAmQ
set_option linter.unusedSimpArgs false
set_option linter.unusedVariables false
namespace Go.Proofs.YtimfbibaoppfcaaGreatDoor
open Go AM
def small (c : Nat) : Bool := decide (97 ≤ c) && decide (c ≤ 122)
def digitB (c : Nat) : Bool := decide (48 ≤ c) && decide (c ≤ 57)
def nameCh (c : Nat) : Bool := small c || digitB c || decide (c = 95) || decide (c = 45)
theorem small_iff (c : Nat) : small c = true ↔ (97 ≤ c ∧ c ≤ 122) := by simp [small]
theorem digit_iff (c : Nat) : digitB c = true ↔ (48 ≤ c ∧ c ≤ 57) := by simp [digitB]
theorem small_spec {c : Nat} (h : small c = true) : 97 ≤ c ∧ c ≤ 122 := (small_iff c).1 h
theorem small_false {c : Nat} (h : small c = false) : ¬ (97 ≤ c ∧ c ≤ 122) := fun h' => by rw [(small_iff c).2 h'] at h; simp at h
theorem digit_spec {c : Nat} (h : digitB c = true) : 48 ≤ c ∧ c ≤ 57 := (digit_iff c).1 h
theorem digit_false {c : Nat} (h : digitB c = false) : ¬ (48 ≤ c ∧ c ≤ 57) := fun h' => by rw [(digit_iff c).2 h'] at h; simp at h
theorem small_yes {c : Nat} (h : 97 ≤ c ∧ c ≤ 122) : small c = true := (small_iff c).2 h
theorem small_no {c : Nat} (h : ¬ (97 ≤ c ∧ c ≤ 122)) : small c = false := Bool.eq_false_iff.2 fun h' => h ((small_iff c).1 h')
theorem nameCh_iff (c : Nat) : nameCh c = true ↔ ((97 ≤ c ∧ c ≤ 122) ∨ (48 ≤ c ∧ c ≤ 57) ∨ c = 95 ∨ c = 45) := by simp [nameCh, small, digitB, or_assoc]
theorem nameCh_yes {c : Nat} (h : (97 ≤ c ∧ c ≤ 122) ∨ (48 ≤ c ∧ c ≤ 57) ∨ c = 95 ∨ c = 45) : nameCh c = true := (nameCh_iff c).2 h
theorem nameCh_no {c : Nat} (h : ¬ ((97 ≤ c ∧ c ≤ 122) ∨ (48 ≤ c ∧ c ≤ 57) ∨ c = 95 ∨ c = 45)) : nameCh c = false := Bool.eq_false_iff.2 fun h' => h ((nameCh_iff c).1 h')
def nameOK (s : ByteArray) : Bool := decide (1 ≤ s.size) && decide (s.size ≤ 24) && small (bAt s 0) && (List.range s.size).all fun i => nameCh (bAt s i)
theorem nameOK_yes {s : ByteArray} {n : Nat} (h1 : 1 ≤ s.size) (h2 : s.size ≤ 24) (h3 : small (bAt s 0) = true) (hn : s.size ≤ n) (h4 : ∀ i, i < n → nameCh (bAt s i) = true) : nameOK s = true := by
  simp only [nameOK, Bool.and_eq_true, decide_eq_true_eq, List.all_eq_true, List.mem_range]
  exact ⟨⟨⟨h1, h2⟩, h3⟩, fun i hi => h4 i (by omega)⟩
theorem nameOK_no {s : ByteArray} (h : ¬ 1 ≤ s.size ∨ ¬ s.size ≤ 24 ∨ small (bAt s 0) = false ∨ ∃ i, i < s.size ∧ nameCh (bAt s i) = false) : nameOK s = false := by
  cases hb : nameOK s with
  | false => rfl
  | true =>
    simp only [nameOK, Bool.and_eq_true, decide_eq_true_eq, List.all_eq_true, List.mem_range] at hb
    rcases h with h | h | h | ⟨i, hi, h⟩
    · exact absurd hb.1.1.1 h
    · exact absurd hb.1.1.2 h
    · rw [hb.1.2] at h; simp at h
    · rw [hb.2 i hi] at h; simp at h
theorem size_pos {t : ByteArray} (h : ¬ t = ByteArray.mk #[]) : 0 < t.size := by
  rcases Nat.eq_zero_or_pos t.size with h0 | h0
  · exfalso
    apply h
    cases t with
    | mk d =>
      have : d.size = 0 := h0
      rw [Array.eq_empty_of_size_eq_zero this]
  · exact h0
def crewNames : List ByteArray := [ByteArray.mk #[97, 110, 110], ByteArray.mk #[98, 111, 98], ByteArray.mk #[99, 97, 116], ByteArray.mk #[100, 97, 110]]
def personQ (L : List Int) (i : Nat) : List D.Window × Nat :=
  if nextN L (nextI L i 2) 4 = 0 then
    ([⟨oneV L (nextI L (nextI L i 2) 4) [0, 3600], oneV L (oneI L (nextI L (nextI L i 2) 4) [0, 3600]) [7200, 86400, 604800]⟩], oneI L (oneI L (nextI L (nextI L i 2) 4) [0, 3600]) [7200, 86400, 604800])
  else ([], nextI L (nextI L i 2) 4)
def personP (L : List Int) (k i : Nat) : D.Person := ⟨nth crewNames k, 0, (personQ L i).1, 0, 0, decide (((nextN L i 2 : Nat) : Int) = (0 : Int))⟩
def personI (L : List Int) (i : Nat) : Nat := (personQ L i).2
def persons (L : List Int) : Nat → List D.Person → Nat → List D.Person × Nat
  | 0, ps, i => (ps, i)
  | n + 1, ps, i => persons L n (ps ++ [personP L ps.length i]) (personI L i)
theorem persons_succ {L : List Int} {n : Nat} {ps : List D.Person} {i : Nat} (h : 0 < n) : persons L n ps i = persons L (n - 1) (ps ++ [personP L ps.length i]) (personI L i) := by
  obtain ⟨m, rfl⟩ : ∃ m, n = m + 1 := ⟨n - 1, by omega⟩
  rfl
def membersL (L : List Int) : Nat → List Int → Nat → List Int × Nat
  | 0, ms, i => (ms, i)
  | n + 1, ms, i => membersL L n (ms ++ [((nextN L i 4 : Nat) : Int)]) (nextI L i 4)
theorem membersL_succ {L : List Int} {n : Nat} {ms : List Int} {i : Nat} (h : 0 < n) : membersL L n ms i = membersL L (n - 1) (ms ++ [((nextN L i 4 : Nat) : Int)]) (nextI L i 4) := by
  obtain ⟨m, rfl⟩ : ∃ m, n = m + 1 := ⟨n - 1, by omega⟩
  rfl
theorem personI_le {L : List Int} {i : Nat} (h : i ≤ L.length) : personI L i ≤ L.length := by
  unfold personI personQ
  split
  · exact oneI_le _ (oneI_le _ (nextI_le _ (nextI_le _ h)))
  · exact nextI_le _ (nextI_le _ h)
theorem membersL_le {L : List Int} : ∀ (n : Nat) (ms : List Int) (i : Nat), i ≤ L.length → (membersL L n ms i).2 ≤ L.length
  | 0, _, _, h => h
  | n + 1, ms, i, h => membersL_le n _ _ (nextI_le _ h)
def ovI1 (L : List Int) (i : Nat) : Nat := oneI L i [0, 300, 1200, 3600]
def ovI4 (L : List Int) (i : Nat) : Nat := oneI L (nextI L (nextI L (ovI1 L i) 3) 4) [300, 1800, 7200]
def ovFrom (base : Int) (L : List Int) (i : Nat) : Int := base + oneV L i [0, 300, 1200, 3600]
def ovTo (base : Int) (L : List Int) (i : Nat) : Int := ovFrom base L i + oneV L (nextI L (nextI L (ovI1 L i) 3) 4) [300, 1800, 7200]
def ovA (L : List Int) (i : Nat) : Nat := nextN L (nextI L (ovI1 L i) 3) 4
def ovE (base : Int) (L : List Int) (i : Nat) : D.Edit × Nat :=
  if nextN L (ovI1 L i) 3 = 2 then (⟨((nextN L (ovI1 L i) 3 : Nat) : Int), ((ovA L i : Nat) : Int), (((ovA L i + 1 + nextN L (ovI4 L i) 3) % 4 : Nat) : Int), ovFrom base L i, ovTo base L i⟩, nextI L (ovI4 L i) 3)
  else if nextN L (ovI1 L i) 3 = 1 then (⟨((nextN L (ovI1 L i) 3 : Nat) : Int), ((nextN L (ovI4 L i) 5 : Nat) : Int) - 1, 0, ovFrom base L i, ovTo base L i⟩, nextI L (ovI4 L i) 5)
  else (⟨((nextN L (ovI1 L i) 3 : Nat) : Int), ((ovA L i : Nat) : Int), 0, ovFrom base L i, ovTo base L i⟩, ovI4 L i)
theorem ovE_2 {base : Int} {L : List Int} {i : Nat} (h : ((nextN L (ovI1 L i) 3 : Nat) : Int) = 2) : ovE base L i = (⟨((nextN L (ovI1 L i) 3 : Nat) : Int), ((ovA L i : Nat) : Int), (((ovA L i + 1 + nextN L (ovI4 L i) 3) % 4 : Nat) : Int), ovFrom base L i, ovTo base L i⟩, nextI L (ovI4 L i) 3) := by
  unfold ovE; rw [if_pos (by omega)]
theorem ovE_1 {base : Int} {L : List Int} {i : Nat} (h : ((nextN L (ovI1 L i) 3 : Nat) : Int) = 1) : ovE base L i = (⟨((nextN L (ovI1 L i) 3 : Nat) : Int), ((nextN L (ovI4 L i) 5 : Nat) : Int) - 1, 0, ovFrom base L i, ovTo base L i⟩, nextI L (ovI4 L i) 5) := by
  unfold ovE; rw [if_neg (by omega), if_pos (by omega)]
theorem ovE_0 {base : Int} {L : List Int} {i : Nat} (h : ¬ ((nextN L (ovI1 L i) 3 : Nat) : Int) = 2) (h' : ¬ ((nextN L (ovI1 L i) 3 : Nat) : Int) = 1) : ovE base L i = (⟨((nextN L (ovI1 L i) 3 : Nat) : Int), ((ovA L i : Nat) : Int), 0, ovFrom base L i, ovTo base L i⟩, ovI4 L i) := by
  unfold ovE; rw [if_neg (by omega), if_neg (by omega)]
theorem person_q {L : List Int} {i : Nat} (k : Nat) (h : ((nextN L (nextI L i 2) 4 : Nat) : Int) = (0 : Int)) : personP L k i = ⟨nth [ByteArray.mk #[97, 110, 110], ByteArray.mk #[98, 111, 98], ByteArray.mk #[99, 97, 116], ByteArray.mk #[100, 97, 110]] k, 0,
    [⟨oneV L (nextI L (nextI L i 2) 4) [0, 3600], oneV L (oneI L (nextI L (nextI L i 2) 4) [0, 3600]) [7200, 86400, 604800]⟩], 0, 0, decide (((nextN L i 2 : Nat) : Int) = (0 : Int))⟩ ∧ personI L i = oneI L (oneI L (nextI L (nextI L i 2) 4) [0, 3600]) [7200, 86400, 604800] := by
  unfold personP personI personQ; rw [if_pos (by omega)]; exact ⟨rfl, rfl⟩
theorem person_0 {L : List Int} {i : Nat} (k : Nat) (h : ¬ ((nextN L (nextI L i 2) 4 : Nat) : Int) = (0 : Int)) : personP L k i = ⟨nth [ByteArray.mk #[97, 110, 110], ByteArray.mk #[98, 111, 98], ByteArray.mk #[99, 97, 116], ByteArray.mk #[100, 97, 110]] k, 0,
    [], 0, 0, decide (((nextN L i 2 : Nat) : Int) = (0 : Int))⟩ ∧ personI L i = nextI L (nextI L i 2) 4 := by
  unfold personP personI personQ; rw [if_neg (by omega)]; exact ⟨rfl, rfl⟩
end Go.Proofs.YtimfbibaoppfcaaGreatDoor
