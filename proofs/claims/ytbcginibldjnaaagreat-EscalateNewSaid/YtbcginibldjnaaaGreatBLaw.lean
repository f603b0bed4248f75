/-
  How what is reckoned of code is evaluated: plain laws of its words. No project text.
-/
import Derived.Test.YtbcginibldjnaaaGreatBP
set_option linter.unusedVariables false
set_option linter.unusedSimpArgs false
namespace Go.Proofs.YtbcginibldjnaaaGreat.AM
open Go
section
variable {R α : Type} {r : R}
theorem cnd_t {x y : Option R} : cnd true x y = x := rfl
theorem cnd_f {x y : Option R} : cnd false x y = y := rfl
theorem cnd_p {p : Prop} [Decidable p] {x y : Option R} (h : p) : cnd (decide p) x y = x := by simp only [h, decide_true, cnd]
theorem cnd_n {p : Prop} [Decidable p] {x y : Option R} (h : ¬ p) : cnd (decide p) x y = y := by simp only [h, decide_false, cnd]
theorem cnd_if {p : Prop} [Decidable p] {x y : Option R} : cnd (decide p) x y = if p then x else y := by
  by_cases h : p
  · rw [cnd_p h, if_pos h]
  · rw [cnd_n h, if_neg h]
theorem cnd_b {b : Bool} {x y : Option R} : cnd b x y = if b = true then x else y := by cases b <;> rfl
theorem natc_p {j : Int} {k : Nat → Option R} (h : 0 ≤ j) : natc j k = k j.toNat := by unfold natc; rw [if_pos h]
theorem natc_n (i : Nat) {k : Nat → Option R} : natc (i : Int) k = k i := by unfold natc; rw [if_pos (Int.natCast_nonneg i)]; rfl
theorem optc_s {x : α} {k : α → Option R} : optc (some x) k = k x := rfl
theorem optc_e {o : Option α} {x : α} {k : α → Option R} (h : o = some x) : optc o k = k x := by subst h; rfl
theorem atc_p [Inhabited α] {l : List α} {j : Int} {k : α → Option R} (h : 0 ≤ j) (h' : j < (l.length : Int)) : atc l j k = k (nth l j.toNat) := by
  unfold atc; rw [natc_p h]
  have : j.toNat < l.length := by omega
  rw [List.getElem?_eq_getElem this]
  simp [optc, nth, List.getD_eq_getElem?_getD, List.getElem?_eq_getElem this]
theorem atc_n [Inhabited α] {l : List α} {i : Nat} {k : α → Option R} (h' : i < l.length) : atc l (i : Int) k = k (nth l i) := by
  rw [atc_p (Int.natCast_nonneg i) (by omega)]; rfl
theorem opt_nth [Inhabited α] {l : List α} {i : Nat} {k : α → Option R} (h' : i < l.length) : optc l[i]? k = k (nth l i) := by
  rw [List.getElem?_eq_getElem h']
  simp [optc, nth, List.getD_eq_getElem?_getD, List.getElem?_eq_getElem h']
theorem chk_p {a b : Nat} {x : Option R} (h : a = b) : chk a b x = x := by unfold chk; rw [if_pos h]
theorem ltc_p {a b : Nat} {x : Option R} (h : a < b) : ltc a b x = x := by unfold ltc; rw [if_pos h]
theorem lec_p {a b : Nat} {x : Option R} (h : a ≤ b) : lec a b x = x := by unfold lec; rw [if_pos h]
theorem nzc_p {b : Int} {x : Option R} (h : b ≠ 0) : nzc b x = x := by unfold nzc; rw [if_neg h]
theorem sameC_p {a : α} [DecidableEq α] {x : Option R} : sameC a a x = x := by unfold sameC; rw [if_pos rfl]
theorem wrap_p {x : Int} (h : -9223372036854775808 ≤ x) (h' : x ≤ 9223372036854775807) : IntKind.i64.wrap x = x := by rw [IntKind.wrap_i64]; omega
/-- A loop whose rounds go through known states. -/
theorem iterF_run {X : Type} {B : (X → Option R) → X → Option R} {v : Option R} : ∀ (n : Nat) (st : Nat → X) {fu : Nat}, n < fu → (∀ i, i < n → ∀ k, B k (st i) = k (st (i + 1))) → (∀ k, B k (st n) = v) → iterF B fu (st 0) = v
  | 0, st, fu, hf, _, h => by
    obtain ⟨f, rfl⟩ : ∃ f, fu = f + 1 := ⟨fu - 1, by omega⟩
    exact h _
  | n + 1, st, fu, hf, hs, h => by
    obtain ⟨f, rfl⟩ : ∃ f, fu = f + 1 := ⟨fu - 1, by omega⟩
    show B (iterF B f) (st 0) = v
    rw [hs 0 (by omega)]
    exact iterF_run n (fun i => st (i + 1)) (by omega) (fun i hi k => hs (i + 1) (by omega) k) h
/-- A loop with an invariant and a measure. -/
theorem iterF_inv {X : Type} {B : (X → Option R) → X → Option R} {Q : Option R → Prop} (I : Nat → X → Prop) (hB : ∀ m x, I m x → ∀ k : X → Option R, (∀ m' x', m' < m → I m' x' → Q (k x')) → Q (B k x)) :
    ∀ (m : Nat) (x : X) {fu : Nat}, m < fu → I m x → Q (iterF B fu x) := by
  intro m
  induction m using Nat.strongRecOn with
  | _ m ih =>
    intro x fu hf hI
    obtain ⟨f, rfl⟩ : ∃ f, fu = f + 1 := ⟨fu - 1, by omega⟩
    show Q (B (iterF B f) x)
    exact hB m x hI _ fun m' x' hm hI' => ih m' hm x' (by omega) hI'
/-- It comes to a value that is such. -/
def Ok (o : Option R) (Q : R → Prop) : Prop := ∃ x, o = some x ∧ Q x
variable {Q Q' : R → Prop}
theorem Ok.s {x : R} (h : Q x) : Ok (some x) Q := ⟨x, rfl, h⟩
theorem Ok.mono {o : Option R} (h : Ok o Q) (hq : ∀ x, Q x → Q' x) : Ok o Q' := by obtain ⟨x, h1, h2⟩ := h; exact ⟨x, h1, hq x h2⟩
theorem Ok.cnd {b : Bool} {x y : Option R} (h1 : b = true → Ok x Q) (h2 : b = false → Ok y Q) : Ok (AM.cnd b x y) Q := by
  cases b
  · exact h2 rfl
  · exact h1 rfl
theorem Ok.ite {p : Prop} [Decidable p] {x y : Option R} (h1 : p → Ok x Q) (h2 : ¬ p → Ok y Q) : Ok (AM.cnd (decide p) x y) Q :=
  Ok.cnd (fun h => h1 (of_decide_eq_true h)) (fun h => h2 (of_decide_eq_false h))
theorem Ok.opt {o : Option α} {P : α → Prop} {k : α → Option R} (h : Ok o P) (hk : ∀ x, P x → Ok (k x) Q) : Ok (optc o k) Q := by
  obtain ⟨x, rfl, h2⟩ := h; exact hk x h2
theorem Ok.at [Inhabited α] {l : List α} {j : Int} {k : α → Option R} (h : 0 ≤ j) (h' : j < (l.length : Int)) (hk : Ok (k (nth l j.toNat)) Q) : Ok (atc l j k) Q := by rw [atc_p h h']; exact hk
theorem Ok.lec {a b : Nat} {x : Option R} (h : a ≤ b) (hx : Ok x Q) : Ok (AM.lec a b x) Q := by rw [lec_p h]; exact hx
theorem Ok.nzc {b : Int} {x : Option R} (h : b ≠ 0) (hx : Ok x Q) : Ok (AM.nzc b x) Q := by rw [nzc_p h]; exact hx
theorem Ok.sameC {a : α} [DecidableEq α] {x : Option R} (hx : Ok x Q) : Ok (AM.sameC a a x) Q := by rw [sameC_p]; exact hx
theorem Ok.join {Y : Type} {k : Y → Option R} {f : (Y → Option R) → Option R} (J : Y → Prop) (h1 : ∀ y, J y → Ok (k y) Q) (h2 : ∀ k : Y → Option R, (∀ y, J y → Ok (k y) Q) → Ok (f k) Q) : Ok (AM.join k f) Q := h2 k h1
theorem Ok.loop {X : Type} {B : (X → Option R) → X → Option R} (I : Nat → X → Prop) {m : Nat} {x : X} {fu : Nat} (hm : m < fu) (h0 : I m x) (hB : ∀ m x, I m x → ∀ k : X → Option R, (∀ m' x', m' < m → I m' x' → Ok (k x') Q) → Ok (B k x) Q) : Ok (iterF B fu x) Q :=
  iterF_inv (Q := fun o => Ok o Q) I hB m x hm h0
theorem Ok.eq {o : Option R} {v : R} (h : Ok o (· = v)) : o = some v := by obtain ⟨x, rfl, rfl⟩ := h; rfl
end
end Go.Proofs.YtbcginibldjnaaaGreat.AM
