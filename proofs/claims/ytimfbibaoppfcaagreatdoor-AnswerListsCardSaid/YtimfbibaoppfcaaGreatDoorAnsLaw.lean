/-
  Answers, in plain Lean: those that dice make, and that a text is read back. No project text.
-/
import Derived.Test.YtimfbibaoppfcaaGreatDoorAnsRef
set_option linter.unusedSimpArgs false
set_option linter.unusedVariables false
namespace Go.Proofs.YtimfbibaoppfcaaGreatDoor
open Go AM
/-! ### Answers by dice -/
def ansJ (L : List Int) (i : Nat) : Nat := nextI L (nextI L i 5) 5
def ansK (L : List Int) (i : Nat) : Nat := nextN L (nextI L i 5) 5
def ansArg (L : List Int) (i : Nat) : Int := if ansK L i = 2 then oneV L (ansJ L i) [1, 60, 600, 5000] else if ansK L i = 3 then ((nextN L (ansJ L i) 4 : Nat) : Int) else 0
def ansP (L : List Int) (i : Nat) (id page at_ : Int) : D.Answer := ⟨id, page, ((nextN L i 5 : Nat) : Int) - 1, ((1 + ansK L i : Nat) : Int), ansArg L i, at_⟩
def ansI (L : List Int) (i : Nat) : Nat := if ansK L i = 2 then oneI L (ansJ L i) [1, 60, 600, 5000] else if ansK L i = 3 then nextI L (ansJ L i) 4 else ansJ L i
theorem ansArg_2 {L : List Int} {i : Nat} (h : ansK L i = 2) : ansArg L i = oneV L (ansJ L i) [1, 60, 600, 5000] := if_pos h
theorem ansArg_3 {L : List Int} {i : Nat} (h : ansK L i = 3) : ansArg L i = ((nextN L (ansJ L i) 4 : Nat) : Int) := by unfold ansArg; rw [if_neg (by omega), if_pos h]
theorem ansArg_0 {L : List Int} {i : Nat} (h : ¬ ansK L i = 2) (h' : ¬ ansK L i = 3) : ansArg L i = 0 := by unfold ansArg; rw [if_neg h, if_neg h']
theorem ansI_2 {L : List Int} {i : Nat} (h : ansK L i = 2) : ansI L i = oneI L (ansJ L i) [1, 60, 600, 5000] := if_pos h
theorem ansI_3 {L : List Int} {i : Nat} (h : ansK L i = 3) : ansI L i = nextI L (ansJ L i) 4 := by unfold ansI; rw [if_neg (by omega), if_pos h]
theorem ansI_0 {L : List Int} {i : Nat} (h : ¬ ansK L i = 2) (h' : ¬ ansK L i = 3) : ansI L i = ansJ L i := by unfold ansI; rw [if_neg h, if_neg h']
theorem ansI_le {L : List Int} {i : Nat} (h : i ≤ L.length) : ansI L i ≤ L.length := by
  unfold ansI ansJ
  have h1 := nextI_le (L := L) 5 (nextI_le (L := L) 5 h)
  split
  · exact oneI_le _ h1
  · split
    · exact nextI_le _ h1
    · exact h1
def oddA (L : List Int) (i : Nat) (a : D.Answer) : D.Answer :=
  match nextN L i 6 with
  | 0 => { a with ID := oneV L (nextI L i 6) [0, 999999, 1000000] }
  | 1 => { a with Page := oneV L (nextI L i 6) [0, 999999, 1000000] }
  | 2 => { a with Person := oneV L (nextI L i 6) [-2, 4, 31, 32] }
  | 3 => { a with Kind := oneV L (nextI L i 6) [0, 6] }
  | 4 => { a with Arg := oneV L (nextI L i 6) [-1, 0, 4, 86400, 86401] }
  | 5 => { a with At := oneV L (nextI L i 6) [-1, 8589934592, 8589934593] }
  | _ => a
def oddAI (L : List Int) (i : Nat) : Nat :=
  match nextN L i 6 with
  | 0 => oneI L (nextI L i 6) [0, 999999, 1000000]
  | 1 => oneI L (nextI L i 6) [0, 999999, 1000000]
  | 2 => oneI L (nextI L i 6) [-2, 4, 31, 32]
  | 3 => oneI L (nextI L i 6) [0, 6]
  | 4 => oneI L (nextI L i 6) [-1, 0, 4, 86400, 86401]
  | 5 => oneI L (nextI L i 6) [-1, 8589934592, 8589934593]
  | _ => nextI L i 6
theorem oddAI_le {L : List Int} {i : Nat} (h : i ≤ L.length) : oddAI L i ≤ L.length := by
  unfold oddAI
  have h1 := nextI_le (L := L) 6 h
  split
  all_goals first | exact oneI_le _ h1 | exact h1
/-! ### A text that is read back -/
def noSp (s : ByteArray) : Prop := ∀ c ∈ unB s, c ≠ 32
theorem noSp_itoa {n : Int} (h : 0 ≤ n) : noSp (itoaB n) := by
  obtain ⟨k, rfl⟩ : ∃ k : Nat, n = (k : Int) := ⟨n.toNat, by omega⟩
  intro c hc
  rw [itoaB_nat, un_mk] at hc
  have := dec_dig k c hc
  intro e; subst e
  exact absurd this (by decide)
theorem noSp_dig {n : Int} (h0 : 0 ≤ n) (h1 : n ≤ 9999) : noSp (digB n) := by
  obtain ⟨k, rfl⟩ : ∃ k : Nat, n = (k : Int) := ⟨n.toNat, by omega⟩
  intro c hc
  rw [digB_four (by omega), un_mk] at hc
  have := four_dig (n := k) (by omega) c hc
  intro e; subst e
  exact absurd this (by decide)
theorem noSp_verb (k : Int) : noSp (verbV k) := by
  unfold noSp verbV
  repeat' split
  all_goals decide
theorem noSp_crew {i : Nat} (h : i < 4) : noSp (nth crewNames i) := by
  have : i = 0 ∨ i = 1 ∨ i = 2 ∨ i = 3 := by omega
  unfold noSp
  rcases this with rfl | rfl | rfl | rfl <;> decide
theorem spl_sp {a b : ByteArray} (h : noSp a) : splB 32 (a ++ (bSp ++ b)) = a :: splB 32 b := by
  unfold splB
  rw [unB_app, unB_app, show unB bSp = [32] from rfl, List.singleton_append, splL_sep 32 _ _ h, List.map_cons, mk_un]
theorem spl_end {a : ByteArray} (h : noSp a) : splB 32 a = [a] := by
  unfold splB
  rw [splL_miss 32 _ h, List.map_cons, mk_un]; rfl
def fmt3 (k P C : Int) : ByteArray := (((verbV k ++ bSp) ++ itoaB P) ++ bSp) ++ digB C
theorem fmtHead_is (a : D.Answer) : fmtHead a = fmt3 a.Kind a.Page (ansCode a.Page a.Person) := rfl
theorem words3 {k P C : Int} (hP : 0 ≤ P) (h0 : 0 ≤ C) (h1 : C ≤ 9999) : splitS (fmt3 k P C) = [verbV k, itoaB P, digB C] := by
  rw [splitS_is]
  unfold fmt3
  rw [ByteArray.append_assoc, ByteArray.append_assoc, ByteArray.append_assoc, spl_sp (noSp_verb k), spl_sp (noSp_itoa hP), spl_end (noSp_dig h0 h1)]
theorem words4 {k P C : Int} {x : ByteArray} (hP : 0 ≤ P) (h0 : 0 ≤ C) (h1 : C ≤ 9999) (hx : noSp x) : splitS (fmt3 k P C ++ (bSp ++ x)) = [verbV k, itoaB P, digB C, x] := by
  rw [splitS_is]
  unfold fmt3
  rw [ByteArray.append_assoc, ByteArray.append_assoc, ByteArray.append_assoc, ByteArray.append_assoc, spl_sp (noSp_verb k), spl_sp (noSp_itoa hP), spl_sp (noSp_dig h0 h1), spl_end hx]
theorem kind_verb {k : Int} (h1 : 1 ≤ k) (h5 : k ≤ 5) : kindV (verbV k) = k := by
  obtain ⟨n, rfl⟩ : ∃ n : Nat, k = (n : Int) := ⟨k.toNat, by omega⟩
  exact (verb_is (by omega) (by omega)).1 rfl
theorem num_dec {u g : Int} (h1 : 1 ≤ u) (h2 : u ≤ g) (hg : g ≤ 1000000000000) : numOK (itoaB u) g = true ∧ atoiV (itoaB u) = u := by
  obtain ⟨k, rfl⟩ : ∃ k : Nat, u = (k : Int) := ⟨u.toNat, by omega⟩
  have e : unB (itoaB ((k : Nat) : Int)) = Lib.decDigits k := by rw [itoaB_nat, un_mk]
  exact ⟨(numOK_iff hg).2 ⟨k, by omega, h2, e⟩, (atoi_of e (by omega)).2⟩
theorem code_dig {C : Int} (h0 : 0 ≤ C) (h1 : C ≤ 9999) : codeOK (digB C) = true := by
  obtain ⟨k, rfl⟩ : ∃ k : Nat, C = (k : Int) := ⟨C.toNat, by omega⟩
  rw [codeOK_iff, digB_four (by omega)]
  simp only [Bool.and_eq_true, decide_eq_true_eq, digB']
  exact ⟨rfl, by rw [un_mk]; exact four_dig (by omega)⟩
theorem four_inj {m n : Nat} (hm : m < 10000) (hn : n < 10000) (h : four m = four n) : m = n := by
  unfold four at h
  simp only [List.cons.injEq] at h
  obtain ⟨h1, h2, h3, h4, _⟩ := h
  have d : ∀ a b : Nat, a < 10 → b < 10 → UInt8.ofNat (48 + a) = UInt8.ofNat (48 + b) → a = b := fun a b ha hb e => by
    have := congrArg UInt8.toNat e
    rw [digit_nat ha, digit_nat hb] at this; omega
  have e1 := d _ _ (by omega) (by omega) h1
  have e2 := d _ _ (by omega) (by omega) h2
  have e3 := d _ _ (by omega) (by omega) h3
  have e4 := d _ _ (by omega) (by omega) h4
  omega
theorem digB_inj {a b : Int} (ha : 0 ≤ a ∧ a ≤ 9999) (hb : 0 ≤ b ∧ b ≤ 9999) : digB a = digB b ↔ a = b := by
  constructor
  · intro h
    obtain ⟨m, rfl⟩ : ∃ k : Nat, a = (k : Int) := ⟨a.toNat, by omega⟩
    obtain ⟨n, rfl⟩ : ∃ k : Nat, b = (k : Int) := ⟨b.toNat, by omega⟩
    rw [digB_four (by omega), digB_four (by omega)] at h
    have := four_inj (by omega) (by omega) (mkB_inj h)
    omega
  · intro h; rw [h]
theorem digB_ne {C : Int} (h0 : 0 ≤ C) (h1 : C ≤ 9999) : ¬ digB C = b0 := by
  obtain ⟨k, rfl⟩ : ∃ k : Nat, C = (k : Int) := ⟨C.toNat, by omega⟩
  rw [digB_four (by omega)]
  intro e
  have h2 := congrArg ByteArray.size e
  have h3 : (mkB (four k)).size = 4 := rfl
  have h4 : b0.size = 0 := rfl
  omega
/-- Three words: what they mean. -/
theorem parse3 {c : D.Config} {q k P C : Int} (hk1 : 1 ≤ k) (hk5 : k ≤ 5) (hk3 : k ≠ 3) (hk4 : k ≠ 4) (hP1 : 1 ≤ P) (hP2 : P ≤ 999999) (hC0 : 0 ≤ C) (hC1 : C ≤ 9999) (hq : inB q 0 (((c.People.length : Nat) : Int) - 1) = true) (hq31 : inB q 0 31 = true) :
    parseA c q (fmt3 k P C) = (if C = ansCode P q then (⟨0, P, q, k, 0, 0⟩, 0) else (ansZ, 20)) := by
  rw [parseA_in hq, words3 (by omega) hC0 hC1]
  have e0 : nth ([verbV k, itoaB P, digB C] : List ByteArray) 0 = verbV k := rfl
  have e1 : nth ([verbV k, itoaB P, digB C] : List ByteArray) 1 = itoaB P := rfl
  have e2 : nth ([verbV k, itoaB P, digB C] : List ByteArray) 2 = digB C := rfl
  obtain ⟨n1, n2⟩ := num_dec hP1 hP2 (by omega)
  rw [e0, kind_verb hk1 hk5]
  have hn : nWords k = 3 := nWords_3 (by omega)
  have hbad : badW [verbV k, itoaB P, digB C] k = false := by
    unfold badW
    rw [hn, e1, e2, n1, code_dig hC0 hC1]
    have h0 : ¬ k = 0 := by omega
    have h4 := digB_ne hC0 hC1
    simp [h0, hk3, h4]
  have hcode := ansCode_nn (inB_true (n := P) (lo := 1) (hi := 999999) ⟨hP1, hP2⟩) hq31
  by_cases h : C = ansCode P q
  · rw [if_pos h, parseW_ok hbad (by rw [e2, e1, n2, h]) hk4, e1, n2, if_neg hk3]
  · rw [if_neg h, parseW_code hbad (by rw [e2, e1, n2]; intro e; exact h ((digB_inj ⟨hC0, hC1⟩ hcode).1 e))]
/-- Four words: a time. -/
theorem parse4s {c : D.Config} {q P C A : Int} (hP1 : 1 ≤ P) (hP2 : P ≤ 999999) (hC0 : 0 ≤ C) (hC1 : C ≤ 9999) (hA1 : 1 ≤ A) (hA2 : A ≤ 86400) (hq : inB q 0 (((c.People.length : Nat) : Int) - 1) = true) (hq31 : inB q 0 31 = true) :
    parseA c q (fmt3 3 P C ++ (bSp ++ itoaB A)) = (if C = ansCode P q then (⟨0, P, q, 3, A, 0⟩, 0) else (ansZ, 20)) := by
  rw [parseA_in hq, words4 (by omega) hC0 hC1 (noSp_itoa (by omega))]
  have e0 : nth ([verbV 3, itoaB P, digB C, itoaB A] : List ByteArray) 0 = verbV 3 := rfl
  have e1 : nth ([verbV 3, itoaB P, digB C, itoaB A] : List ByteArray) 1 = itoaB P := rfl
  have e2 : nth ([verbV 3, itoaB P, digB C, itoaB A] : List ByteArray) 2 = digB C := rfl
  have e3 : nth ([verbV 3, itoaB P, digB C, itoaB A] : List ByteArray) 3 = itoaB A := rfl
  obtain ⟨n1, n2⟩ := num_dec hP1 hP2 (by omega)
  obtain ⟨m1, m2⟩ := num_dec hA1 hA2 (by omega)
  rw [e0, kind_verb (k := 3) (by omega) (by omega)]
  have hn : nWords 3 = 4 := nWords_4 (by omega)
  have hne : ¬ itoaB A = b0 := fun e => by
    have h1 := itoaB_pos A
    have h2 := congrArg ByteArray.size e
    rw [h2] at h1; exact absurd h1 (by decide)
  have hbad : badW [verbV 3, itoaB P, digB C, itoaB A] 3 = false := by
    unfold badW
    rw [hn, e1, e2, e3, n1, m1, code_dig hC0 hC1]
    simp [hne, e3]
  have hcode := ansCode_nn (inB_true (n := P) (lo := 1) (hi := 999999) ⟨hP1, hP2⟩) hq31
  by_cases h : C = ansCode P q
  · rw [if_pos h, parseW_ok hbad (by rw [e2, e1, n2, h]) (by omega), e1, e3, n2, m2, if_pos rfl]
  · rw [if_neg h, parseW_code hbad (by rw [e2, e1, n2]; intro e; exact h ((digB_inj ⟨hC0, hC1⟩ hcode).1 e))]
theorem person_at {c : D.Config} (h : CfgOK c) {i : Nat} (hi : i < 4) : person c.People (nth c.People i).Name = (((i : Nat) : Int), true) := by
  obtain ⟨h1, h2⟩ := findP_spec c.People (nth c.People i).Name
  have hl := h.plen
  have hle : findP c.People (nth c.People i).Name ≤ i := Nat.le_of_not_lt fun hlt => h1 i hlt rfl
  have := h2 (by omega)
  have e := h.nmd (by omega) hi this
  unfold person; rw [e, if_pos (by omega)]
/-- Four words: a name. -/
theorem parse4h {c : D.Config} {q P C : Int} {i : Nat} (h : CfgOK c) (hi : i < 4) (hP1 : 1 ≤ P) (hP2 : P ≤ 999999) (hC0 : 0 ≤ C) (hC1 : C ≤ 9999) (hq : inB q 0 (((c.People.length : Nat) : Int) - 1) = true) (hq31 : inB q 0 31 = true) :
    parseA c q (fmt3 4 P C ++ (bSp ++ (nth c.People i).Name)) = (if C = ansCode P q then (⟨0, P, q, 4, ((i : Nat) : Int), 0⟩, 0) else (ansZ, 20)) := by
  have hnm : noSp (nth c.People i).Name := by rw [h.pnm hi]; exact noSp_crew hi
  rw [parseA_in hq, words4 (by omega) hC0 hC1 hnm]
  have hne : ¬ (nth c.People i).Name = b0 := fun e => by
    have := (h.pfacts hi).1
    rw [e] at this; exact absurd this (by decide)
  have hpa := person_at h hi
  generalize (nth c.People i).Name = x at hne hpa ⊢
  have e0 : nth ([verbV 4, itoaB P, digB C, x] : List ByteArray) 0 = verbV 4 := rfl
  have e1 : nth ([verbV 4, itoaB P, digB C, x] : List ByteArray) 1 = itoaB P := rfl
  have e2 : nth ([verbV 4, itoaB P, digB C, x] : List ByteArray) 2 = digB C := rfl
  have e3 : nth ([verbV 4, itoaB P, digB C, x] : List ByteArray) 3 = x := rfl
  obtain ⟨n1, n2⟩ := num_dec hP1 hP2 (by omega)
  rw [e0, kind_verb (k := 4) (by omega) (by omega)]
  have hn : nWords 4 = 4 := nWords_4 (by omega)
  have hbad : badW [verbV 4, itoaB P, digB C, x] 4 = false := by
    unfold badW
    rw [hn, e1, e2, n1, code_dig hC0 hC1]
    simp [hne, e3]
  have hcode := ansCode_nn (inB_true (n := P) (lo := 1) (hi := 999999) ⟨hP1, hP2⟩) hq31
  by_cases h : C = ansCode P q
  · rw [if_pos h, parseW_4 hbad (by rw [e2, e1, n2, h]), e1, e3, n2, hpa]; rfl
  · rw [if_neg h, parseW_code hbad (by rw [e2, e1, n2]; intro e; exact h ((digB_inj ⟨hC0, hC1⟩ hcode).1 e))]
/-- A valid answer's text, read by somebody. -/
theorem parse_back {c : D.Config} {a : D.Answer} {q : Int} (h : CfgOK c) (hv : ansValid a = true) (hp : inB a.Person 0 3 = true) (ha : a.Kind = 4 → a.Arg ≤ 3) (hq : inB q 0 3 = true) :
    parseA c q (fmtA c a).1 = (if ansCode a.Page a.Person = ansCode a.Page q then (⟨0, a.Page, q, a.Kind, a.Arg, 0⟩, 0) else (ansZ, 20)) ∧ (fmtA c a).2 = 0 := by
  obtain ⟨v1, v2, v3, v4, v5, v6⟩ := ansValid_spec hv
  have hpl := h.plen
  have hp' := inB_spec hp
  have hq' := inB_spec hq
  have hql : inB q 0 (((c.People.length : Nat) : Int) - 1) = true := inB_true (by omega)
  have hq31 : inB q 0 31 = true := inB_true (by omega)
  have hcode := ansCode_nn (p := a.Page) (q := a.Person) (inB_true v2) (inB_true (by omega))
  have n8 : ¬ (ansValid a = false ∨ a.Person = -1) := by rintro (e | e); rw [hv] at e; cases e; omega
  have n3 : ¬ (((c.People.length : Nat) : Int) ≤ a.Person ∨ (a.Kind = 4 ∧ ((c.People.length : Nat) : Int) ≤ a.Arg)) := by
    rintro (e | ⟨e, e2⟩)
    · omega
    · have := ha e; omega
  rw [fmtA_0 n8 n3 rfl]
  refine ⟨?_, rfl⟩
  show parseA c q (if a.Kind = 3 then fmtHead a ++ (bSp ++ itoaB a.Arg) else if a.Kind = 4 then fmtHead a ++ (bSp ++ (nth c.People a.Arg.toNat).Name) else fmtHead a) = _
  have hv2 := hv
  unfold ansValid at hv2
  simp only [Bool.and_eq_true] at hv2
  have harg := inB_spec hv2.2
  by_cases k3 : a.Kind = 3
  · rw [if_pos k3, fmtHead_is, k3, parse4s v2.1 v2.2 hcode.1 hcode.2 (by simp [k3, ansLow, ansHigh] at harg; omega) (by simp [k3, ansLow, ansHigh] at harg; omega) hql hq31]
  · rw [if_neg k3]
    by_cases k4 : a.Kind = 4
    · rw [if_pos k4, fmtHead_is, k4, parse4h h (by have := ha k4; omega) v2.1 v2.2 hcode.1 hcode.2 hql hq31, show ((a.Arg.toNat : Nat) : Int) = a.Arg by omega]
    · rw [if_neg k4, fmtHead_is, parse3 v5.1 v5.2 k3 k4 v2.1 v2.2 hcode.1 hcode.2 hql hq31]
      have e : a.Arg = 0 := by
        have e1 : ansLow a.Kind = 0 := if_neg k3
        have e2 : ansHigh a.Kind = 0 := by unfold ansHigh; rw [if_neg k3, if_neg k4]
        rw [e1, e2] at harg; omega
      rw [e]
theorem ack_text {K N : Int} (h0 : 0 ≤ N) (h1 : N ≤ 9999) : ((((((ByteArray.mk #[97, 99, 107, 32]) ++ itoaB K) ++ (ByteArray.mk #[32])) ++ itoaB (N / 1000)) ++ itoaB (N / 100 % 10)) ++ itoaB (N / 10 % 10)) ++ itoaB (N % 10) = fmt3 1 K N := by
  have e : fmt3 1 K N = (((ByteArray.mk #[97, 99, 107, 32]) ++ itoaB K) ++ ByteArray.mk #[32]) ++ digB N := rfl
  rw [e, ← digB_parts h0 h1]
  simp only [ByteArray.append_assoc]
def saneT : ByteArray := ByteArray.mk #[97, 99, 107, 32, 49, 50, 32, 57, 55, 51, 57]
theorem sane_text : fmt3 1 12 9739 = saneT := by
  have e1 : itoaB 12 = ByteArray.mk #[49, 50] := by
    rw [show (12 : Int) = ((12 : Nat) : Int) from rfl, itoaB_nat, Lib.decDigits_two (by omega) (by omega)]; rfl
  have e2 : digB 9739 = ByteArray.mk #[57, 55, 51, 57] := by
    rw [show (9739 : Int) = ((9739 : Nat) : Int) from rfl, digB_four (by omega)]; rfl
  unfold fmt3
  rw [e1, e2]; rfl
theorem sane_valid : ansValid ⟨1, 12, 0, 1, 0, 0⟩ = true := by decide
theorem sane_fmt {c : D.Config} (h : CfgOK c) : fmtA c ⟨1, 12, 0, 1, 0, 0⟩ = (saneT, 0) := by
  have hpl := h.plen
  rw [fmtA_0 (by decide) (by rintro (e | ⟨e, e2⟩); · simp only at e; omega
                             · simp only at e; omega) rfl]
  rw [if_neg (show ¬ ((1 : Int) = 3) by decide), if_neg (show ¬ ((1 : Int) = 4) by decide), fmtHead_is, ← sane_text]
  rfl
theorem sane_parse {c : D.Config} (h : CfgOK c) : parseA c 0 saneT = (⟨0, 12, 0, 1, 0, 0⟩, 0) := by
  have hpl := h.plen
  rw [← sane_text, parse3 (by omega) (by omega) (by omega) (by omega) (by omega) (by omega) (by omega) (by omega) (inB_true (by omega)) (inB_true (by omega)), if_pos (by decide)]
theorem fmt3_size (k P C : Int) (h0 : 0 ≤ P) (h1 : P ≤ 1000000) (h2 : 0 ≤ C) (h3 : C ≤ 9999) : (fmt3 k P C).size ≤ 60 := by
  have e1 := verbV_size k
  have e2 := itoaB_size P (by omega) (by omega)
  have e3 := digB_size C (by omega) (by omega)
  have e0 : bSp.size = 1 := rfl
  unfold fmt3
  simp only [ByteArray.size_append]; omega
theorem fmtA_size {c : D.Config} (h : CfgOK c) (a : D.Answer) : (fmtA c a).1.size ≤ 200 := by
  have hpl := h.plen
  have e0 : bSp.size = 1 := rfl
  have eb : b0.size = 0 := rfl
  unfold fmtA
  split
  · rw [eb]; omega
  · split
    · rw [eb]; omega
    · rename_i h1 h2
      have hv : ansValid a = true := by
        cases e : ansValid a with
        | true => rfl
        | false => exact absurd (.inl e) h1
      obtain ⟨v1, v2, v3, v4, v5, v6⟩ := ansValid_spec hv
      have hf := fmtHead_size (a := a) v2
      simp only
      split
      · have := itoaB_size a.Arg (by omega) (by omega)
        simp only [ByteArray.size_append]; omega
      · split
        · rename_i _ k4
          have hlt : a.Arg.toNat < 4 := by
            have : ¬ ((c.People.length : Nat) : Int) ≤ a.Arg := fun e => h2 (.inr ⟨k4, e⟩)
            omega
          have := h.nmsize hlt
          simp only [ByteArray.size_append]; omega
        · omega
/-! ### The words of AnswerTexts -/
def ansWords : List ByteArray := [(ByteArray.mk #[97, 99, 107, 32, 49, 50, 32, 57, 55, 51, 57]), (ByteArray.mk #[104, 97, 110, 100, 32, 49, 32]), (ByteArray.mk #[32, 54, 48]), (ByteArray.mk #[115, 110, 111, 111, 122, 101, 32, 49, 50, 32, 57, 55, 51, 57]), (ByteArray.mk #[32, 97, 110, 110]), (ByteArray.mk #[32, 48, 54, 48]), (ByteArray.mk #[100, 101, 99, 108, 105, 110, 101, 32, 51]), (ByteArray.mk #[32, 48, 48, 48, 48]), (ByteArray.mk #[32, 32]), (ByteArray.mk #[114, 101, 115, 111, 108, 118, 101]), (ByteArray.mk #[56, 54, 52, 48, 48]), (ByteArray.mk #[32, 56, 54, 52, 48, 49])]
theorem ansWords_all : ∀ w ∈ ansWords, w.size ≤ 20 := by decide
theorem ansWords_le (k : Nat) : (nth ansWords k).size ≤ 20 := by
  rcases Nat.lt_or_ge k ansWords.length with h | h
  · exact ansWords_all _ (nth_mem h)
  · have : nth ansWords k = (default : ByteArray) := by unfold nth; rw [List.getD_eq_getElem?_getD, List.getElem?_eq_none h]; rfl
    rw [this]; exact Nat.zero_le _
/-! ### The answer of AnswerBack -/
def backA (L : List Int) : D.Answer :=
  { ansP L (nextI L (crewI L 0) 999999) 1 ((1 + (nextN L (crewI L 0) 999999) : Nat) : Int) 864000 with Person := ((nextN L (ansI L (nextI L (crewI L 0) 999999)) 4 : Nat) : Int) }
theorem ansP_arg (L : List Int) (i : Nat) : inB (ansArg L i) (ansLow ((1 + ansK L i : Nat) : Int)) (ansHigh ((1 + ansK L i : Nat) : Int)) = true ∧ (((1 + ansK L i : Nat) : Int) = 4 → ansArg L i ≤ 3) := by
  by_cases h2 : ansK L i = 2
  · have e1 : ansArg L i = oneV L (ansJ L i) [1, 60, 600, 5000] := if_pos h2
    have e2 : ansLow ((1 + ansK L i : Nat) : Int) = 1 := if_pos (by omega)
    have e3 : ansHigh ((1 + ansK L i : Nat) : Int) = 86400 := if_pos (by omega)
    rw [e1, e2, e3]
    refine ⟨?_, fun e => by omega⟩
    rcases one4 (L := L) (i := ansJ L i) (a := 1) (b := 60) (c := 600) (d := 5000) with e | e | e | e <;> rw [e] <;> decide
  · have e2 : ansLow ((1 + ansK L i : Nat) : Int) = 0 := if_neg (by omega)
    by_cases h3 : ansK L i = 3
    · have := nextN_lt L (ansJ L i) 4 (by omega)
      have e1 : ansArg L i = ((nextN L (ansJ L i) 4 : Nat) : Int) := by unfold ansArg; rw [if_neg h2, if_pos h3]
      have e3 : ansHigh ((1 + ansK L i : Nat) : Int) = 31 := by unfold ansHigh; rw [if_neg (by omega), if_pos (by omega)]
      rw [e1, e2, e3]
      exact ⟨inB_true ⟨by omega, by omega⟩, fun _ => by omega⟩
    · have e1 : ansArg L i = 0 := by unfold ansArg; rw [if_neg h2, if_neg h3]
      have e3 : ansHigh ((1 + ansK L i : Nat) : Int) = 0 := by unfold ansHigh; rw [if_neg (by omega), if_neg (by omega)]
      rw [e1, e2, e3]
      exact ⟨rfl, fun _ => by omega⟩
theorem backA_ok (L : List Int) : ansValid (backA L) = true ∧ inB (backA L).Person 0 3 = true ∧ ((backA L).Kind = 4 → (backA L).Arg ≤ 3) := by
  have h1 := nextN_lt L (crewI L 0) 999999 (by omega)
  have h2 := nextN_lt L (ansI L (nextI L (crewI L 0) 999999)) 4 (by omega)
  have h3 := nextN_lt L (nextI L (nextI L (crewI L 0) 999999) 5) 5 (by omega)
  have h4 := ansP_arg L (nextI L (crewI L 0) 999999)
  have hp : inB (backA L).Person 0 3 = true := inB_true ⟨by simp only [backA]; omega, by simp only [backA]; omega⟩
  refine ⟨?_, hp, h4.2⟩
  unfold ansValid
  have e1 : inB (backA L).ID 1 999999 = true := inB_true ⟨by simp only [backA, ansP]; omega, by simp only [backA, ansP]; omega⟩
  have e2 : inB (backA L).Page 1 999999 = true := inB_true ⟨by simp only [backA, ansP]; omega, by simp only [backA, ansP]; omega⟩
  have e3 : inB (backA L).Person (-1) 31 = true := inB_true ⟨by simp only [backA]; omega, by simp only [backA]; omega⟩
  have e4 : inB (backA L).At 0 8589934592 = true := inB_true ⟨by simp only [backA, ansP]; omega, by simp only [backA, ansP]; omega⟩
  have e5 : inB (backA L).Kind 1 5 = true := inB_true ⟨by simp only [backA, ansP, ansK]; omega, by simp only [backA, ansP, ansK]; omega⟩
  rw [e1, e2, e3, e4, e5]
  exact h4.1
end Go.Proofs.YtimfbibaoppfcaaGreatDoor
