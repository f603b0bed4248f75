/-
  Answers, in plain Lean: their texts, what a text means. No project text.
-/
import Derived.Test.YtimfbibaoppfcaaGreatDoorCrewLaw
import Derived.Test.YtimfbibaoppfcaaGreatDoorKit
import Derived.Lib.ItoaLen
set_option linter.unusedSimpArgs false
set_option linter.unusedVariables false
namespace Go.Proofs.YtimfbibaoppfcaaGreatDoor
open Go AM
namespace D
structure Answer where
  ID : Int
  Page : Int
  Person : Int
  Kind : Int
  Arg : Int
  At : Int
instance : Inhabited Answer := ⟨⟨default, default, default, default, default, default⟩⟩
abbrev Answer.cells (x : Answer) : List PV := [(pI x.ID), (pI x.Page), (pI x.Person), (pI x.Kind), (pI x.Arg), (pI x.At)]
end D
abbrev b0 : ByteArray := ByteArray.mk #[]
abbrev bSp : ByteArray := ByteArray.mk #[32]
abbrev bAck : ByteArray := ByteArray.mk #[97, 99, 107]
abbrev bDecline : ByteArray := ByteArray.mk #[100, 101, 99, 108, 105, 110, 101]
abbrev bSnooze : ByteArray := ByteArray.mk #[115, 110, 111, 111, 122, 101]
abbrev bHand : ByteArray := ByteArray.mk #[104, 97, 110, 100]
abbrev bResolve : ByteArray := ByteArray.mk #[114, 101, 115, 111, 108, 118, 101]
def ansLow (k : Int) : Int := if k = 3 then 1 else 0
def ansHigh (k : Int) : Int := if k = 3 then 86400 else if k = 4 then 31 else 0
def ansValid (a : D.Answer) : Bool := inB a.ID 1 999999 && inB a.Page 1 999999 && inB a.Person (-1) 31 && inB a.At 0 8589934592 && inB a.Kind 1 5 && inB a.Arg (ansLow a.Kind) (ansHigh a.Kind)
def ansCode (p q : Int) : Int := if inB p 1 999999 && inB q 0 31 then (7919 * p + 104729 * q + 4711) % 10000 else -1
theorem ansCode_le (p q : Int) : -1 ≤ ansCode p q ∧ ansCode p q ≤ 9999 := by unfold ansCode; split <;> omega
def digB (c : Int) : ByteArray := (itoaB (10000 + c)).extract 1 (itoaB (10000 + c)).size
def verbsL : List (ByteArray × Value) := [(bAck, .int .i64 1), (bDecline, .int .i64 2), (bSnooze, .int .i64 3), (bHand, .int .i64 4), (bResolve, .int .i64 5)]
def kindV (w : ByteArray) : Int := if w = bAck then 1 else if w = bDecline then 2 else if w = bSnooze then 3 else if w = bHand then 4 else if w = bResolve then 5 else 0
theorem kindV_get (w : ByteArray) : (lookS w verbsL).getD (.int .i64 0) = .int .i64 (kindV w) := by
  simp only [verbsL, lookS, kindV]
  repeat' split
  all_goals simp_all
theorem kindV_le (w : ByteArray) : 0 ≤ kindV w ∧ kindV w ≤ 5 := by
  unfold kindV; repeat' split
  all_goals omega
def verbV (k : Int) : ByteArray := if k = 1 then bAck else if k = 2 then bDecline else if k = 3 then bSnooze else if k = 4 then bHand else if k = 5 then bResolve else b0
theorem verbV_size (k : Int) : (verbV k).size ≤ 7 := by
  unfold verbV; repeat' split
  all_goals decide
theorem verbs_get {j : Nat} {k : ByteArray} {v : Value} (h : verbsL[j]? = some (k, v)) : j < 5 ∧ k = verbV ((j : Int) + 1) ∧ v = .int .i64 ((j : Int) + 1) := by
  have hj : j < 5 := (List.getElem?_eq_some_iff.1 h).1
  have : j = 0 ∨ j = 1 ∨ j = 2 ∨ j = 3 ∨ j = 4 := by omega
  rcases this with rfl | rfl | rfl | rfl | rfl <;> (simp [verbsL] at h; obtain ⟨rfl, rfl⟩ := h; exact ⟨by omega, rfl, rfl⟩)
/-! ### Which entries are left -/
def leftC (seen : Array Nat) : Nat := ((List.range 5).filter fun i => !seen.contains i).length
theorem filter_push (j : Nat) (seen : Array Nat) : ∀ (l : List Nat), j ∈ l → seen.contains j = false → (l.filter fun i => !(seen.push j).contains i).length < (l.filter fun i => !seen.contains i).length
  | [], h, _ => by simp at h
  | x :: r, h, hs => by
    have hle : ∀ (l : List Nat), (l.filter fun i => !(seen.push j).contains i).length ≤ (l.filter fun i => !seen.contains i).length := fun l => by
      induction l with
      | nil => simp
      | cons y l ih =>
        simp only [List.filter_cons]
        by_cases h1 : seen.contains y = true
        · have h2 : (seen.push j).contains y = true := by simp at h1 ⊢; exact .inl h1
          simp only [h1, h2, Bool.not_true, Bool.false_eq_true, if_false]; exact ih
        · have h1' : seen.contains y = false := by simpa using h1
          simp only [h1', Bool.not_false, if_true]
          split
          · simpa using ih
          · simp only [List.length_cons]; omega
    simp only [List.filter_cons]
    by_cases e : x = j
    · subst e
      have h2 : (seen.push x).contains x = true := by simp
      simp only [h2, hs, Bool.not_true, Bool.not_false, if_true, Bool.false_eq_true, if_false, List.length_cons]
      have := hle r; omega
    · have hr : j ∈ r := by simpa [Ne.symm e] using h
      have ih := filter_push j seen r hr hs
      have hc : (seen.push j).contains x = seen.contains x := by simp [e]
      rw [hc]
      split
      · simp only [List.length_cons]; omega
      · exact ih
theorem left_push {j : Nat} {seen : Array Nat} (hj : j < 5) (hs : seen.contains j = false) : leftC (seen.push j) < leftC seen := filter_push j seen _ (by simpa using hj) hs
/-! ### The text of an answer -/
def fmtHead (a : D.Answer) : ByteArray := (((verbV a.Kind ++ bSp) ++ itoaB a.Page) ++ bSp) ++ digB (ansCode a.Page a.Person)
def headOf (a : D.Answer) (seen : Array Nat) : ByteArray := if seen.contains (a.Kind - 1).toNat then fmtHead a else b0
theorem headOf_nil (a : D.Answer) : headOf a #[] = b0 := by simp [headOf]
theorem headOf_hit {a : D.Answer} {seen : Array Nat} {j : Nat} (h : (j : Int) + 1 = a.Kind) : headOf a (seen.push j) = (((verbV ((j : Int) + 1) ++ bSp) ++ itoaB a.Page) ++ bSp) ++ digB (ansCode a.Page a.Person) := by
  have e : (a.Kind - 1).toNat = j := by omega
  rw [headOf, e, if_pos (by simp), h]; rfl
theorem headOf_miss {a : D.Answer} {seen : Array Nat} {j : Nat} (h : ¬ (j : Int) + 1 = a.Kind) (h1 : 1 ≤ a.Kind) : headOf a (seen.push j) = headOf a seen := by
  have e : (a.Kind - 1).toNat ≠ j := by omega
  unfold headOf
  generalize (a.Kind - 1).toNat = k at e
  have : (seen.push j).contains k = seen.contains k := by simp [e]
  rw [this]
theorem headOf_all {a : D.Answer} {seen : Array Nat} (h : ∀ j, j < verbsL.length → seen.contains j = true) (h1 : 1 ≤ a.Kind) (h5 : a.Kind ≤ 5) : headOf a seen = fmtHead a := by
  rw [headOf, if_pos (h _ (show _ < 5 by omega))]
def fmtA (c : D.Config) (a : D.Answer) : ByteArray × Int :=
  if ansValid a = false ∨ a.Person = -1 then (b0, 8)
  else if ((c.People.length : Nat) : Int) ≤ a.Person ∨ (a.Kind = 4 ∧ ((c.People.length : Nat) : Int) ≤ a.Arg) then (b0, 3)
  else (if a.Kind = 3 then fmtHead a ++ (bSp ++ itoaB a.Arg) else if a.Kind = 4 then fmtHead a ++ (bSp ++ (nth c.People a.Arg.toNat).Name) else fmtHead a, 0)
theorem fmtA_8 {c : D.Config} {a : D.Answer} (h : ansValid a = false ∨ a.Person = -1) : fmtA c a = (b0, 8) := by rw [fmtA, if_pos h]
theorem fmtA_3 {c : D.Config} {a : D.Answer} (h : ¬ (ansValid a = false ∨ a.Person = -1)) (h2 : ((c.People.length : Nat) : Int) ≤ a.Person ∨ (a.Kind = 4 ∧ ((c.People.length : Nat) : Int) ≤ a.Arg)) : fmtA c a = (b0, 3) := by rw [fmtA, if_neg h, if_pos h2]
theorem fmtA_0 {c : D.Config} {a : D.Answer} {t : ByteArray} (h : ¬ (ansValid a = false ∨ a.Person = -1)) (h2 : ¬ (((c.People.length : Nat) : Int) ≤ a.Person ∨ (a.Kind = 4 ∧ ((c.People.length : Nat) : Int) ≤ a.Arg)))
    (ht : (if a.Kind = 3 then fmtHead a ++ (bSp ++ itoaB a.Arg) else if a.Kind = 4 then fmtHead a ++ (bSp ++ (nth c.People a.Arg.toNat).Name) else fmtHead a) = t) : fmtA c a = (t, 0) := by rw [fmtA, if_neg h, if_neg h2, ht]
/-! ### Sizes -/
theorem sz_app {a b : ByteArray} {m n : Nat} (h1 : a.size ≤ m) (h2 : b.size ≤ n) : (a ++ b).size ≤ m + n := by rw [ByteArray.size_append]; omega
theorem sz_le {a b : ByteArray} {m n : Nat} (h1 : a.size ≤ m) (h2 : b.size ≤ n) (h : Nat.ble (m + n) 9223372036854775807 = true) : a.size + b.size ≤ 9223372036854775807 := by
  have := Nat.le_of_ble_eq_true h; omega
theorem ansValid_spec {a : D.Answer} (h : ansValid a = true) : (1 ≤ a.ID ∧ a.ID ≤ 999999) ∧ (1 ≤ a.Page ∧ a.Page ≤ 999999) ∧ (-1 ≤ a.Person ∧ a.Person ≤ 31) ∧ (0 ≤ a.At ∧ a.At ≤ 8589934592) ∧ (1 ≤ a.Kind ∧ a.Kind ≤ 5) ∧ (0 ≤ a.Arg ∧ a.Arg ≤ 86400) := by
  unfold ansValid at h
  simp only [Bool.and_eq_true] at h
  obtain ⟨⟨⟨⟨⟨h1, h2⟩, h3⟩, h4⟩, h5⟩, h6⟩ := h
  refine ⟨inB_spec h1, inB_spec h2, inB_spec h3, inB_spec h4, inB_spec h5, ?_⟩
  have := inB_spec h6
  unfold ansLow ansHigh at this
  by_cases e3 : a.Kind = 3
  · simp only [e3, if_true] at this; omega
  · by_cases e4 : a.Kind = 4
    · simp only [e4, if_true] at this; omega
    · simp only [e3, e4, if_false] at this; omega
theorem itoaB_size (n : Int) (h0 : -9223372036854775808 ≤ n) (h1 : n ≤ 9223372036854775807) : (itoaB n).size ≤ 21 := by
  have := Lib.itoa_length_le n h0 h1
  simpa [itoaB, ByteArray.size] using this
theorem itoaB_pos (n : Int) : 1 ≤ (itoaB n).size := by
  have h : ∀ u, 1 ≤ (Lib.decDigits u).length := fun u => by
    rw [Lib.decDigits]; split <;> simp
  have : 1 ≤ (Lib.itoa n).length := by
    unfold Lib.itoa; split
    · simp
    · exact h _
  simpa [itoaB, ByteArray.size] using this
theorem splitS_len (s : ByteArray) : 1 ≤ (splitS s).length := by
  have : (splitS s).length = Lib.countB s sepB + 1 := Lib.splitB_all sepB (by decide) 0 _ s rfl
  omega
theorem digB_size (c : Int) (h0 : -1 ≤ c) (h1 : c ≤ 1000000) : (digB c).size ≤ 21 := by
  have := itoaB_size (10000 + c) (by omega) (by omega)
  unfold digB; rw [ByteArray.size_extract]; omega
theorem fmtHead_size {a : D.Answer} (h : 1 ≤ a.Page ∧ a.Page ≤ 999999) : (fmtHead a).size ≤ 60 := by
  have h1 := verbV_size a.Kind
  have h2 := itoaB_size a.Page (by omega) (by omega)
  have h3 := digB_size (ansCode a.Page a.Person) (ansCode_le _ _).1 (by have := (ansCode_le a.Page a.Person).2; omega)
  have h0 : bSp.size = 1 := rfl
  unfold fmtHead
  simp only [ByteArray.size_append]; omega
theorem CfgOK.nmsize {c : D.Config} (h : CfgOK c) {i : Nat} (hi : i < 4) : (nth c.People i).Name.size ≤ 24 := by
  have hi' : i < c.People.length := by rw [h.plen]; exact hi
  have h1 : c.People[i]? = some (nth c.People i) := by simp [nth, List.getD_eq_getElem?_getD, List.getElem?_eq_getElem hi']
  have h2 : (c.People.map (·.Name))[i]? = some (nth c.People i).Name := by rw [List.getElem?_map, h1]; rfl
  rw [h.pname] at h2
  have : i = 0 ∨ i = 1 ∨ i = 2 ∨ i = 3 := by omega
  rcases this with rfl | rfl | rfl | rfl <;> (simp [crewNames] at h2; rw [← h2]; decide)
theorem parseUint10_dig : ∀ (l : List UInt8) (acc u : Nat), Lib.parseUint10 acc l = .ok u → u < (acc + 1) * 10 ^ l.length
  | [], acc, u, h => by simp only [Lib.parseUint10] at h; injection h with h; simp; omega
  | c :: r, acc, u, h => by
    simp only [Lib.parseUint10] at h
    split at h
    · split at h
      · cases h
      · split at h
        · cases h
        · rename_i hc _ _
          have ih := parseUint10_dig r _ u h
          have e : (acc * 10 + (c.toNat - 48) + 1) ≤ (acc + 1) * 10 := by omega
          calc u < (acc * 10 + (c.toNat - 48) + 1) * 10 ^ r.length := ih
            _ ≤ (acc + 1) * 10 * 10 ^ r.length := Nat.mul_le_mul_right _ e
            _ = (acc + 1) * 10 ^ (c :: r).length := by rw [List.length_cons, Nat.pow_succ, Nat.mul_assoc, Nat.mul_comm 10]
    · cases h
theorem parseMag_dig {l : List UInt8} {u k : Nat} (h : Lib.parseMag l = .ok u) (hl : l.length ≤ k) : u < 10 ^ k := by
  unfold Lib.parseMag at h
  split at h
  · cases h
  · have := parseUint10_dig l 0 u h
    have h2 : 10 ^ l.length ≤ 10 ^ k := Nat.pow_le_pow_right (by omega) hl
    omega
theorem atoiV_le {s : ByteArray} {k : Nat} (h : atoiK s = true) (hs : s.size ≤ k) : -(10 ^ k : Nat) < atoiV s ∧ atoiV s < (10 ^ k : Nat) := by
  unfold atoiK at h
  unfold atoiV
  cases hA : Lib.atoiAll s.data.toList
  case range => simp [hA] at h
  case ok v =>
    simp only
    have hlen : s.data.toList.length ≤ k := Nat.le_trans (Nat.le_of_eq Array.length_toList) hs
    generalize s.data.toList = l at hA hlen
    unfold Lib.atoiAll at hA
    split at hA
    · cases hA
    · rename_i c r
      simp only at hA
      split at hA
      · cases hA
      · cases hA
      · rename_i u hu
        have hu2 := parseMag_dig (k := k) hu (by rw [List.length_cons] at hlen; split; exact (by omega); rw [List.length_cons]; exact hlen)
        split at hA
        · cases hA
        · split at hA
          · cases hA
          · injection hA with hA
            rw [← hA]; split <;> omega
  · simp [hA] at h
theorem atoiV_in (s : ByteArray) : -9223372036854775808 ≤ atoiV s ∧ atoiV s ≤ 9223372036854775807 := by
  unfold atoiV
  cases hA : Lib.atoiAll s.data.toList
  case range => simp only [Lib.atoiSat]; split <;> omega
  case ok v => exact Lib.atoiAll_bounds hA
  · simp
theorem atoi4 {s : ByteArray} (h : atoiK s = true) (hs : s.size = 4) : atoiV s ≤ 1000000 := by
  have := (atoiV_le h (Nat.le_of_eq hs)).2
  simp at this; omega
theorem splitB_size (sep : ByteArray) : ∀ (k : Nat) (s w : ByteArray), w ∈ Lib.splitB sep 0 k s → w.size ≤ s.size
  | 0, s, w, h => by simp [Lib.splitB] at h; rw [h]; exact Nat.le_refl _
  | k + 1, s, w, h => by
    unfold Lib.splitB at h
    split at h
    · simp at h; rw [h]; exact Nat.le_refl _
    · simp only [List.mem_cons] at h
      rcases h with rfl | h
      · rw [ByteArray.size_extract]; omega
      · have := splitB_size sep k _ w h
        rw [ByteArray.size_extract] at this; omega
theorem splitS_size (t : ByteArray) (i : Nat) : (nth (splitS t) i).size ≤ t.size := by
  rcases Nat.lt_or_ge i (splitS t).length with h | h
  · exact splitB_size _ _ t _ (nth_mem h)
  · rw [show nth (splitS t) i = default from by simp [nth, h]]; exact Nat.zero_le _
/-! ### What a text means -/
def codeOK (s : ByteArray) : Bool := atoiK s && decide (s.size = 4) && decide (0 ≤ atoiV s) && decide (digB (atoiV s) = s)
def numOK (s : ByteArray) (g : Int) : Bool := atoiK s && decide (itoaB (atoiV s) = s) && inB (atoiV s) 1 g
def findP : List D.Person → ByteArray → Nat
  | [], _ => 0
  | p :: r, t => if p.Name = t then 0 else findP r t + 1
theorem findP_le : ∀ (ps : List D.Person) (t : ByteArray), findP ps t ≤ ps.length
  | [], _ => Nat.le_refl _
  | p :: r, t => by unfold findP; split <;> simp; exact findP_le r t
theorem findP_eq : ∀ {ps : List D.Person} {t : ByteArray} {i : Nat}, i ≤ ps.length → (∀ j, j < i → (nth ps j).Name ≠ t) → (i = ps.length ∨ (nth ps i).Name = t) → findP ps t = i
  | [], t, i, hi, _, _ => by simp at hi; subst hi; rfl
  | p :: r, t, 0, _, _, h => by
    rcases h with h | h
    · simp at h
    · have : p.Name = t := h
      simp [findP, this]
  | p :: r, t, i + 1, hi, hn, h => by
    have h0 : p.Name ≠ t := hn 0 (by omega)
    rw [findP, if_neg h0, findP_eq (i := i) (by simpa using hi) (fun j hj => hn (j + 1) (by omega)) (by
      rcases h with h | h
      · left; simpa using h
      · right; exact h)]
def pidx (ps : List D.Person) (t : ByteArray) : Int := if findP ps t < ps.length then ((findP ps t : Nat) : Int) else -1
theorem pidx_hit {ps : List D.Person} {t : ByteArray} {i : Nat} (hi : i < ps.length) (hn : ∀ j, j < i → (nth ps j).Name ≠ t) (h : (nth ps i).Name = t) : pidx ps t = ((i : Nat) : Int) := by
  have e := findP_eq (Nat.le_of_lt hi) hn (.inr h)
  unfold pidx; rw [e, if_pos hi]
theorem pidx_none {ps : List D.Person} {t : ByteArray} {i : Nat} (hi : i = ps.length) (hn : ∀ j, j < i → (nth ps j).Name ≠ t) : pidx ps t = -1 := by
  have e := findP_eq (Nat.le_of_eq hi) hn (.inl hi)
  unfold pidx; rw [e, if_neg (by omega)]
theorem pidx_le (ps : List D.Person) (t : ByteArray) : -1 ≤ pidx ps t ∧ pidx ps t ≤ ((ps.length : Nat) : Int) := by
  have := findP_le ps t
  unfold pidx; split <;> omega
/-- Who has the name: the place, or none. -/
def person (ps : List D.Person) (t : ByteArray) : Int × Bool := if findP ps t < ps.length then (((findP ps t : Nat) : Int), true) else (0, false)
theorem person_max (ps : List D.Person) (t : ByteArray) : max (0 : Int) (pidx ps t) = (person ps t).1 := by
  unfold person pidx; split <;> simp <;> omega
theorem person_is (ps : List D.Person) (t : ByteArray) : decide ((0 : Int) ≤ pidx ps t) = (person ps t).2 := by
  unfold person pidx; split <;> simp
def ansZ : D.Answer := ⟨0, 0, 0, 0, 0, 0⟩
def nWords (k : Int) : Nat := if k = 3 ∨ k = 4 then 4 else 3
/-- .. of the words: a fault of form. -/
def badW (w : List ByteArray) (k : Int) : Bool := decide (k = 0) || !decide (((w.length : Nat) : Int) = ((nWords k : Nat) : Int)) || decide (nth w (nWords k - 1) = b0) || !codeOK (nth w 2) || !numOK (nth w 1) 999999 || (decide (k = 3) && !numOK (nth w 3) 86400)
def parseW (c : D.Config) (p : Int) (w : List ByteArray) (k : Int) : D.Answer × Int :=
  if badW w k = true then (ansZ, 2)
  else if nth w 2 ≠ digB (ansCode (atoiV (nth w 1)) p) then (ansZ, 20)
  else if k = 4 then (if (person c.People (nth w 3)).2 = false then (ansZ, 3) else (⟨0, atoiV (nth w 1), p, k, (person c.People (nth w 3)).1, 0⟩, 0))
  else (⟨0, atoiV (nth w 1), p, k, if k = 3 then atoiV (nth w 3) else 0, 0⟩, 0)
def parseA (c : D.Config) (p : Int) (t : ByteArray) : D.Answer × Int :=
  if inB p 0 (((c.People.length : Nat) : Int) - 1) = false then (ansZ, 3) else parseW c p (splitS t) (kindV (nth (splitS t) 0))
theorem parseA_out {c : D.Config} {p : Int} {t : ByteArray} (h : inB p 0 (((c.People.length : Nat) : Int) - 1) = false) : parseA c p t = (ansZ, 3) := by rw [parseA, if_pos h]
theorem parseA_in {c : D.Config} {p : Int} {t : ByteArray} (h : inB p 0 (((c.People.length : Nat) : Int) - 1) = true) : parseA c p t = parseW c p (splitS t) (kindV (nth (splitS t) 0)) := by rw [parseA, if_neg (by rw [h]; simp)]
theorem parseW_bad {c : D.Config} {p : Int} {w : List ByteArray} {k : Int} (h : badW w k = true) : parseW c p w k = (ansZ, 2) := by rw [parseW, if_pos h]
theorem parseW_code {c : D.Config} {p : Int} {w : List ByteArray} {k : Int} (h : badW w k = false) (h2 : nth w 2 ≠ digB (ansCode (atoiV (nth w 1)) p)) : parseW c p w k = (ansZ, 20) := by rw [parseW, if_neg (by rw [h]; simp), if_pos h2]
theorem parseW_4 {c : D.Config} {p : Int} {w : List ByteArray} (h : badW w 4 = false) (h2 : nth w 2 = digB (ansCode (atoiV (nth w 1)) p)) :
    parseW c p w 4 = (if (person c.People (nth w 3)).2 = false then (ansZ, 3) else (⟨0, atoiV (nth w 1), p, 4, (person c.People (nth w 3)).1, 0⟩, 0)) := by rw [parseW, if_neg (by rw [h]; simp), if_neg (fun h' => h' h2), if_pos rfl]
theorem parseW_person {c : D.Config} {p k : Int} {w : List ByteArray} (h4 : k = 4) (h : badW w k = false) (h2 : ¬ nth w 2 ≠ digB (ansCode (atoiV (nth w 1)) p)) (h3 : (person c.People (nth w 3)).2 = false) : parseW c p w k = (ansZ, 3) := by
  subst h4; rw [parseW_4 h (Classical.not_not.1 h2), if_pos h3]
theorem parseW_hand {c : D.Config} {p k : Int} {w : List ByteArray} (h4 : k = 4) (h : badW w k = false) (h2 : ¬ nth w 2 ≠ digB (ansCode (atoiV (nth w 1)) p)) (h3 : (person c.People (nth w 3)).2 = true) : parseW c p w k = (⟨0, atoiV (nth w 1), p, k, (person c.People (nth w 3)).1, 0⟩, 0) := by
  subst h4; rw [parseW_4 h (Classical.not_not.1 h2), if_neg (by rw [h3]; simp)]
theorem parseW_ok {c : D.Config} {p : Int} {w : List ByteArray} {k : Int} (h : badW w k = false) (h2 : nth w 2 = digB (ansCode (atoiV (nth w 1)) p)) (h4 : k ≠ 4) :
    parseW c p w k = (⟨0, atoiV (nth w 1), p, k, if k = 3 then atoiV (nth w 3) else 0, 0⟩, 0) := by rw [parseW, if_neg (by rw [h]; simp), if_neg (fun h' => h' h2), if_neg h4]
theorem parseW_snooze {c : D.Config} {p k : Int} {w : List ByteArray} (h3 : k = 3) (h : badW w k = false) (h2 : ¬ nth w 2 ≠ digB (ansCode (atoiV (nth w 1)) p)) : parseW c p w k = (⟨0, atoiV (nth w 1), p, k, atoiV (nth w 3), 0⟩, 0) := by
  rw [parseW_ok h (Classical.not_not.1 h2) (by omega), if_pos h3]
theorem parseW_plain {c : D.Config} {p k : Int} {w : List ByteArray} (h3 : ¬ k = 3) (h4 : ¬ k = 4) (h : badW w k = false) (h2 : ¬ nth w 2 ≠ digB (ansCode (atoiV (nth w 1)) p)) : parseW c p w k = (⟨0, atoiV (nth w 1), p, k, 0, 0⟩, 0) := by
  rw [parseW_ok h (Classical.not_not.1 h2) h4, if_neg h3]
end Go.Proofs.YtimfbibaoppfcaaGreatDoor
