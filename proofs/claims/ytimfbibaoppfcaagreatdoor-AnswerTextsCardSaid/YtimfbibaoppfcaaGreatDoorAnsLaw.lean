/-
  Answers, in plain Lean: those that dice make, and that a text is read back. No project text.
-/
import Derived.Test.YtimfbibaoppfcaaGreatDoorAnsRef
set_option linter.unusedSimpArgs false
set_option linter.unusedVariables false
namespace Go.Proofs.YtimfbibaoppfcaaGreatDoor
open Go AM
def ansJ (L : List Int) (i : Nat) : Nat := nextI L (nextI L i 5) 5
def ansK (L : List Int) (i : Nat) : Nat := nextN L (nextI L i 5) 5
def ansArg (L : List Int) (i : Nat) : Int := if ansK L i = 2 then oneV L (ansJ L i) [1, 60, 600, 5000] else if ansK L i = 3 then ((nextN L (ansJ L i) 4 : Nat) : Int) else 0
def ansP (L : List Int) (i : Nat) (id page at_ : Int) : D.Answer := ⟨id, page, ((nextN L i 5 : Nat) : Int) - 1, ((1 + ansK L i : Nat) : Int), ansArg L i, at_⟩
def ansI (L : List Int) (i : Nat) : Nat := if ansK L i = 2 then oneI L (ansJ L i) [1, 60, 600, 5000] else if ansK L i = 3 then nextI L (ansJ L i) 4 else ansJ L i
theorem ansArg_2 {L : List Int} {i : Nat} (h : ansK L i = 2) : ansArg L i = oneV L (ansJ L i) [1, 60, 600, 5000] := if_pos h
theorem ansArg_3 {L : List Int} {i : Nat} (h : ansK L i = 3) : ansArg L i = ((nextN L (ansJ L i) 4 : Nat) : Int) := by unfold ansArg; rw [if_neg (by omega), if_pos h]
theorem ansArg_0 {L : List Int} {i : Nat} (h : ¬ ansK L i = 2) (h' : ¬ ansK L i = 3) : ansArg L i = 0 := by unfold ansArg; rw [if_neg h, if_neg h']
theorem ansI_2 {L : List Int} {i : Nat} (h : ansK L i = 2) : ansI L i = oneI L (ansJ L i) [1, 60, 600, 5000] := if_pos h
theorem ansI_3 {L : List Int} {i : Nat} (h : ansK L i = 3) : ansI L i = nextI L (ansJ L i) 4 := by unfold ansI; rw [if_neg (by omega), if_pos h]
theorem ansI_0 {L : List Int} {i : Nat} (h : ¬ ansK L i = 2) (h' : ¬ ansK L i = 3) : ansI L i = ansJ L i := by unfold ansI; rw [if_neg h, if_neg h']
theorem ansI_le {L : List Int} {i : Nat} (h : i ≤ L.length) : ansI L i ≤ L.length := by
  unfold ansI ansJ
  have h1 := nextI_le (L := L) 5 (nextI_le (L := L) 5 h)
  split
  · exact oneI_le _ h1
  · split
    · exact nextI_le _ h1
    · exact h1
def oddA (L : List Int) (i : Nat) (a : D.Answer) : D.Answer :=
  match nextN L i 6 with
  | 0 => { a with ID := oneV L (nextI L i 6) [0, 999999, 1000000] }
  | 1 => { a with Page := oneV L (nextI L i 6) [0, 999999, 1000000] }
  | 2 => { a with Person := oneV L (nextI L i 6) [-2, 4, 31, 32] }
  | 3 => { a with Kind := oneV L (nextI L i 6) [0, 6] }
  | 4 => { a with Arg := oneV L (nextI L i 6) [-1, 0, 4, 86400, 86401] }
  | 5 => { a with At := oneV L (nextI L i 6) [-1, 8589934592, 8589934593] }
  | _ => a
def oddAI (L : List Int) (i : Nat) : Nat :=
  match nextN L i 6 with
  | 0 => oneI L (nextI L i 6) [0, 999999, 1000000]
  | 1 => oneI L (nextI L i 6) [0, 999999, 1000000]
  | 2 => oneI L (nextI L i 6) [-2, 4, 31, 32]
  | 3 => oneI L (nextI L i 6) [0, 6]
  | 4 => oneI L (nextI L i 6) [-1, 0, 4, 86400, 86401]
  | 5 => oneI L (nextI L i 6) [-1, 8589934592, 8589934593]
  | _ => nextI L i 6
theorem oddAI_le {L : List Int} {i : Nat} (h : i ≤ L.length) : oddAI L i ≤ L.length := by
  unfold oddAI
  have h1 := nextI_le (L := L) 6 h
  split
  all_goals first | exact oneI_le _ h1 | exact h1
def noSp (s : ByteArray) : Prop := ∀ c ∈ unB s, c ≠ 32
theorem noSp_itoa {n : Int} (h : 0 ≤ n) : noSp (itoaB n) := by
  obtain ⟨k, rfl⟩ : ∃ k : Nat, n = (k : Int) := ⟨n.toNat, by omega⟩
  intro c hc
  rw [itoaB_nat, un_mk] at hc
  have := dec_dig k c hc
  intro e; subst e
  exact absurd this (by decide)
theorem noSp_dig {n : Int} (h0 : 0 ≤ n) (h1 : n ≤ 9999) : noSp (digB n) := by
  obtain ⟨k, rfl⟩ : ∃ k : Nat, n = (k : Int) := ⟨n.toNat, by omega⟩
  intro c hc
  rw [digB_four (by omega), un_mk] at hc
  have := four_dig (n := k) (by omega) c hc
  intro e; subst e
  exact absurd this (by decide)
theorem noSp_verb (k : Int) : noSp (verbV k) := by
  unfold noSp verbV
  repeat' split
  all_goals decide
theorem spl_sp {a b : ByteArray} (h : noSp a) : splB 32 (a ++ (bSp ++ b)) = a :: splB 32 b := by
  unfold splB
  rw [unB_app, unB_app, show unB bSp = [32] from rfl, List.singleton_append, splL_sep 32 _ _ h, List.map_cons, mk_un]
theorem spl_end {a : ByteArray} (h : noSp a) : splB 32 a = [a] := by
  unfold splB
  rw [splL_miss 32 _ h, List.map_cons, mk_un]; rfl
def fmt3 (k P C : Int) : ByteArray := (((verbV k ++ bSp) ++ itoaB P) ++ bSp) ++ digB C
theorem fmtHead_is (a : D.Answer) : fmtHead a = fmt3 a.Kind a.Page (ansCode a.Page a.Person) := rfl
theorem words3 {k P C : Int} (hP : 0 ≤ P) (h0 : 0 ≤ C) (h1 : C ≤ 9999) : splitS (fmt3 k P C) = [verbV k, itoaB P, digB C] := by
  rw [splitS_is]
  unfold fmt3
  rw [ByteArray.append_assoc, ByteArray.append_assoc, ByteArray.append_assoc, spl_sp (noSp_verb k), spl_sp (noSp_itoa hP), spl_end (noSp_dig h0 h1)]
theorem kind_verb {k : Int} (h1 : 1 ≤ k) (h5 : k ≤ 5) : kindV (verbV k) = k := by
  obtain ⟨n, rfl⟩ : ∃ n : Nat, k = (n : Int) := ⟨k.toNat, by omega⟩
  exact (verb_is (by omega) (by omega)).1 rfl
theorem num_dec {u g : Int} (h1 : 1 ≤ u) (h2 : u ≤ g) (hg : g ≤ 1000000000000) : numOK (itoaB u) g = true ∧ atoiV (itoaB u) = u := by
  obtain ⟨k, rfl⟩ : ∃ k : Nat, u = (k : Int) := ⟨u.toNat, by omega⟩
  have e : unB (itoaB ((k : Nat) : Int)) = Lib.decDigits k := by rw [itoaB_nat, un_mk]
  exact ⟨(numOK_iff hg).2 ⟨k, by omega, h2, e⟩, (atoi_of e (by omega)).2⟩
theorem code_dig {C : Int} (h0 : 0 ≤ C) (h1 : C ≤ 9999) : codeOK (digB C) = true := by
  obtain ⟨k, rfl⟩ : ∃ k : Nat, C = (k : Int) := ⟨C.toNat, by omega⟩
  rw [codeOK_iff, digB_four (by omega)]
  simp only [Bool.and_eq_true, decide_eq_true_eq, digB']
  exact ⟨rfl, by rw [un_mk]; exact four_dig (by omega)⟩
theorem four_inj {m n : Nat} (hm : m < 10000) (hn : n < 10000) (h : four m = four n) : m = n := by
  unfold four at h
  simp only [List.cons.injEq] at h
  obtain ⟨h1, h2, h3, h4, _⟩ := h
  have d : ∀ a b : Nat, a < 10 → b < 10 → UInt8.ofNat (48 + a) = UInt8.ofNat (48 + b) → a = b := fun a b ha hb e => by
    have := congrArg UInt8.toNat e
    rw [digit_nat ha, digit_nat hb] at this; omega
  have e1 := d _ _ (by omega) (by omega) h1
  have e2 := d _ _ (by omega) (by omega) h2
  have e3 := d _ _ (by omega) (by omega) h3
  have e4 := d _ _ (by omega) (by omega) h4
  omega
theorem digB_inj {a b : Int} (ha : 0 ≤ a ∧ a ≤ 9999) (hb : 0 ≤ b ∧ b ≤ 9999) : digB a = digB b ↔ a = b := by
  constructor
  · intro h
    obtain ⟨m, rfl⟩ : ∃ k : Nat, a = (k : Int) := ⟨a.toNat, by omega⟩
    obtain ⟨n, rfl⟩ : ∃ k : Nat, b = (k : Int) := ⟨b.toNat, by omega⟩
    rw [digB_four (by omega), digB_four (by omega)] at h
    have := four_inj (by omega) (by omega) (mkB_inj h)
    omega
  · intro h; rw [h]
theorem digB_ne {C : Int} (h0 : 0 ≤ C) (h1 : C ≤ 9999) : ¬ digB C = b0 := by
  obtain ⟨k, rfl⟩ : ∃ k : Nat, C = (k : Int) := ⟨C.toNat, by omega⟩
  rw [digB_four (by omega)]
  intro e
  have h2 := congrArg ByteArray.size e
  have h3 : (mkB (four k)).size = 4 := rfl
  have h4 : b0.size = 0 := rfl
  omega
theorem parse3 {c : D.Config} {q k P C : Int} (hk1 : 1 ≤ k) (hk5 : k ≤ 5) (hk3 : k ≠ 3) (hk4 : k ≠ 4) (hP1 : 1 ≤ P) (hP2 : P ≤ 999999) (hC0 : 0 ≤ C) (hC1 : C ≤ 9999) (hq : inB q 0 (((c.People.length : Nat) : Int) - 1) = true) (hq31 : inB q 0 31 = true) :
    parseA c q (fmt3 k P C) = (if C = ansCode P q then (⟨0, P, q, k, 0, 0⟩, 0) else (ansZ, 20)) := by
  rw [parseA_in hq, words3 (by omega) hC0 hC1]
  have e0 : nth ([verbV k, itoaB P, digB C] : List ByteArray) 0 = verbV k := rfl
  have e1 : nth ([verbV k, itoaB P, digB C] : List ByteArray) 1 = itoaB P := rfl
  have e2 : nth ([verbV k, itoaB P, digB C] : List ByteArray) 2 = digB C := rfl
  obtain ⟨n1, n2⟩ := num_dec hP1 hP2 (by omega)
  rw [e0, kind_verb hk1 hk5]
  have hn : nWords k = 3 := nWords_3 (by omega)
  have hbad : badW [verbV k, itoaB P, digB C] k = false := by
    unfold badW
    rw [hn, e1, e2, n1, code_dig hC0 hC1]
    have h0 : ¬ k = 0 := by omega
    have h4 := digB_ne hC0 hC1
    simp [h0, hk3, h4]
  have hcode := ansCode_nn (inB_true (n := P) (lo := 1) (hi := 999999) ⟨hP1, hP2⟩) hq31
  by_cases h : C = ansCode P q
  · rw [if_pos h, parseW_ok hbad (by rw [e2, e1, n2, h]) hk4, e1, n2, if_neg hk3]
  · rw [if_neg h, parseW_code hbad (by rw [e2, e1, n2]; intro e; exact h ((digB_inj ⟨hC0, hC1⟩ hcode).1 e))]
def saneT : ByteArray := ByteArray.mk #[97, 99, 107, 32, 49, 50, 32, 57, 55, 51, 57]
theorem sane_text : fmt3 1 12 9739 = saneT := by
  have e1 : itoaB 12 = ByteArray.mk #[49, 50] := by
    rw [show (12 : Int) = ((12 : Nat) : Int) from rfl, itoaB_nat, Lib.decDigits_two (by omega) (by omega)]; rfl
  have e2 : digB 9739 = ByteArray.mk #[57, 55, 51, 57] := by
    rw [show (9739 : Int) = ((9739 : Nat) : Int) from rfl, digB_four (by omega)]; rfl
  unfold fmt3
  rw [e1, e2]; rfl
theorem sane_fmt {c : D.Config} (h : CfgOK c) : fmtA c ⟨1, 12, 0, 1, 0, 0⟩ = (saneT, 0) := by
  have hpl := h.plen
  rw [fmtA_0 (by decide) (by rintro (e | ⟨e, e2⟩); · simp only at e; omega
                             · simp only at e; omega) rfl]
  rw [if_neg (show ¬ ((1 : Int) = 3) by decide), if_neg (show ¬ ((1 : Int) = 4) by decide), fmtHead_is, ← sane_text]
  rfl
theorem sane_parse {c : D.Config} (h : CfgOK c) : parseA c 0 saneT = (⟨0, 12, 0, 1, 0, 0⟩, 0) := by
  have hpl := h.plen
  rw [← sane_text, parse3 (by omega) (by omega) (by omega) (by omega) (by omega) (by omega) (by omega) (by omega) (inB_true (by omega)) (inB_true (by omega)), if_pos (by decide)]
theorem fmtA_size {c : D.Config} (h : CfgOK c) (a : D.Answer) : (fmtA c a).1.size ≤ 200 := by
  have hpl := h.plen
  have e0 : bSp.size = 1 := rfl
  have eb : b0.size = 0 := rfl
  unfold fmtA
  split
  · rw [eb]; omega
  · split
    · rw [eb]; omega
    · rename_i h1 h2
      have hv : ansValid a = true := by
        cases e : ansValid a with
        | true => rfl
        | false => exact absurd (.inl e) h1
      obtain ⟨v1, v2, v3, v4, v5, v6⟩ := ansValid_spec hv
      have hf := fmtHead_size (a := a) v2
      simp only
      split
      · have := itoaB_size a.Arg (by omega) (by omega)
        simp only [ByteArray.size_append]; omega
      · split
        · rename_i _ k4
          have hlt : a.Arg.toNat < 4 := by
            have : ¬ ((c.People.length : Nat) : Int) ≤ a.Arg := fun e => h2 (.inr ⟨k4, e⟩)
            omega
          have := h.nmsize hlt
          simp only [ByteArray.size_append]; omega
        · omega
def ansWords : List ByteArray := [(ByteArray.mk #[97, 99, 107, 32, 49, 50, 32, 57, 55, 51, 57]), (ByteArray.mk #[104, 97, 110, 100, 32, 49, 32]), (ByteArray.mk #[32, 54, 48]), (ByteArray.mk #[115, 110, 111, 111, 122, 101, 32, 49, 50, 32, 57, 55, 51, 57]), (ByteArray.mk #[32, 97, 110, 110]), (ByteArray.mk #[32, 48, 54, 48]), (ByteArray.mk #[100, 101, 99, 108, 105, 110, 101, 32, 51]), (ByteArray.mk #[32, 48, 48, 48, 48]), (ByteArray.mk #[32, 32]), (ByteArray.mk #[114, 101, 115, 111, 108, 118, 101]), (ByteArray.mk #[56, 54, 52, 48, 48]), (ByteArray.mk #[32, 56, 54, 52, 48, 49])]
theorem ansWords_all : ∀ w ∈ ansWords, w.size ≤ 20 := by decide
theorem ansWords_le (k : Nat) : (nth ansWords k).size ≤ 20 := by
  rcases Nat.lt_or_ge k ansWords.length with h | h
  · exact ansWords_all _ (nth_mem h)
  · have : nth ansWords k = (default : ByteArray) := by unfold nth; rw [List.getD_eq_getElem?_getD, List.getElem?_eq_none h]; rfl
    rw [this]; exact Nat.zero_le _
end Go.Proofs.YtimfbibaoppfcaaGreatDoor
