/-
  Lists of answers, in plain Lean: merging, those of a page; any order leads to the same list. No project text.
-/
import Derived.Test.YtimfbibaoppfcaaGreatDoorAnsLaw
set_option linter.unusedSimpArgs false
set_option linter.unusedVariables false
namespace Go.Proofs.YtimfbibaoppfcaaGreatDoor
open Go AM
theorem map_nth_at {α : Type} [Inhabited α] {l : List α} {f : α → List PV} {i k : Nat} (h : i = k) (hk : k < l.length) : (l.map f)[i]? = some (f (nth l k)) := by subst h; exact map_nth hk
def ltP (x a : D.Answer) : Prop := x.At < a.At ∨ (x.At = a.At ∧ x.ID < a.ID)
instance (x a : D.Answer) : Decidable (ltP x a) := inferInstanceAs (Decidable (_ ∨ _))
def insK (l : List D.Answer) (a : D.Answer) : Nat → Nat
  | 0 => 0
  | i + 1 => if ltP (nth l i) a then i + 1 else insK l a i
theorem insK_yes {l : List D.Answer} {a : D.Answer} {i : Nat} (h : ltP (nth l i) a) : insK l a (i + 1) = i + 1 := if_pos h
theorem insK_no {l : List D.Answer} {a : D.Answer} {i : Nat} (h : ¬ ltP (nth l i) a) : insK l a (i + 1) = insK l a i := if_neg h
theorem insK_le (l : List D.Answer) (a : D.Answer) : ∀ i, insK l a i ≤ i
  | 0 => Nat.le_refl _
  | i + 1 => by have := insK_le l a i; unfold insK; split <;> omega
def hasID (l : List D.Answer) (a : D.Answer) : Bool := l.any fun x => decide (x.ID = a.ID)
def mergeA (l : List D.Answer) (a : D.Answer) : List D.Answer × Bool :=
  if ansValid a = false ∨ hasID l a = true then (l, false) else ((l.take (insK l a l.length) ++ [a]) ++ l.drop (insK l a l.length), true)
theorem mergeA_no {l : List D.Answer} {a : D.Answer} (h : ansValid a = false ∨ ∃ i, i < l.length ∧ (nth l i).ID = a.ID) : mergeA l a = (l, false) := by
  unfold mergeA
  rw [if_pos]
  rcases h with h | ⟨i, h1, h2⟩
  · exact .inl h
  · right
    unfold hasID
    rw [List.any_eq_true]
    exact ⟨nth l i, nth_mem h1, by simpa using h2⟩
theorem mergeA_yes {l : List D.Answer} {a : D.Answer} (h1 : ansValid a = true) (h2 : ∀ i, i < l.length → (nth l i).ID ≠ a.ID) : mergeA l a = ((l.take (insK l a l.length) ++ [a]) ++ l.drop (insK l a l.length), true) := by
  unfold mergeA
  rw [if_neg]
  rintro (h | h)
  · rw [h1] at h; cases h
  · unfold hasID at h
    rw [List.any_eq_true] at h
    obtain ⟨x, hx, e⟩ := h
    obtain ⟨i, hi, hie⟩ := List.getElem_of_mem hx
    refine h2 i hi ?_
    have : nth l i = x := by unfold nth; rw [List.getD_eq_getElem?_getD, List.getElem?_eq_getElem hi, hie]; rfl
    rw [this]; simpa using e
theorem mergeA_len (l : List D.Answer) (a : D.Answer) : (mergeA l a).1.length ≤ l.length + 1 := by
  unfold mergeA; split
  · simp
  · simp only [List.length_append, List.length_take, List.length_drop, List.length_cons, List.length_nil]; omega
/-! ### A place is made within a list -/
def shiftL (l : List D.Answer) (k : Nat) : List D.Answer := l.take (k + 1) ++ (l.drop k).take (l.length - (k + 1))
theorem shiftL_rows (l : List D.Answer) (k : Nat) {f : D.Answer → List PV} : (l.map f).take (k + 1) ++ ((l.map f).drop k).take ((l.map f).length - (k + 1)) = (shiftL l k).map f := by
  unfold shiftL
  simp only [List.map_append, List.map_take, List.map_drop, List.length_map]
theorem shiftL_len (l : List D.Answer) (a : D.Answer) {k : Nat} (h : k ≤ l.length) : (shiftL (l ++ [a]) k).length = l.length + 1 := by
  unfold shiftL; simp; omega
theorem insL_len (l : List D.Answer) (a : D.Answer) {k : Nat} (h : k ≤ l.length) : ((l.take k ++ [a]) ++ l.drop k).length = l.length + 1 := by simp; omega
theorem shiftL_set {l : List D.Answer} {a : D.Answer} {k : Nat} (h : k ≤ l.length) : (shiftL (l ++ [a]) k).set k a = (l.take k ++ [a]) ++ l.drop k := by
  have e1 : (l ++ [a]).take (k + 1) = l.take k ++ (l ++ [a])[k]'(by simp; omega) :: [] := by
    rw [List.take_succ_eq_append_getElem (by simp; omega), List.take_append_of_le_length h]
  have e2 : ((l ++ [a]).drop k).take ((l ++ [a]).length - (k + 1)) = l.drop k := by
    rw [List.drop_append_of_le_length h]
    have : (l ++ [a]).length - (k + 1) = (l.drop k).length := by simp
    rw [this, List.take_left]
  unfold shiftL
  rw [e1, e2, List.append_assoc, List.append_assoc]
  have hk : (l.take k).length = k := by simp; omega
  rw [List.set_append_right _ _ (by omega), hk, Nat.sub_self]
  rfl
theorem shiftL_rowset {l : List D.Answer} {a : D.Answer} {k : Nat} (h : k ≤ l.length) {f : D.Answer → List PV} : ((shiftL (l ++ [a]) k).map f).set k (f a) = ((l.take k ++ [a]) ++ l.drop k).map f := by
  rw [← List.map_set, shiftL_set h]
/-! ### Those of a page -/
def ofI (l : List D.Answer) (p : Int) (i : Nat) : List D.Answer := (l.take i).filter fun x => decide (x.Page = p)
def ofA (l : List D.Answer) (p : Int) : List D.Answer := l.filter fun x => decide (x.Page = p)
theorem ofI_zero (l : List D.Answer) (p : Int) : ofI l p 0 = [] := rfl
theorem ofI_step {l : List D.Answer} {p : Int} {i : Nat} (hi : i < l.length) : ofI l p (i + 1) = if (nth l i).Page = p then ofI l p i ++ [nth l i] else ofI l p i := by
  unfold ofI
  have : l[i]? = some (nth l i) := by unfold nth; rw [List.getD_eq_getElem?_getD, List.getElem?_eq_getElem hi]; rfl
  rw [List.take_add_one, this, Option.toList_some, List.filter_append]
  by_cases h : (nth l i).Page = p
  · rw [if_pos h]; simp [h]
  · rw [if_neg h]; simp [h]
theorem ofI_yes {l : List D.Answer} {p : Int} {i : Nat} (hi : i < l.length) (h : (nth l i).Page = p) : ofI l p (i + 1) = ofI l p i ++ [nth l i] := by rw [ofI_step hi, if_pos h]
theorem ofI_no {l : List D.Answer} {p : Int} {i : Nat} (hi : i < l.length) (h : ¬ (nth l i).Page = p) : ofI l p (i + 1) = ofI l p i := by rw [ofI_step hi, if_neg h]
theorem ofI_all (l : List D.Answer) (p : Int) {i : Nat} (h : i = l.length) : ofI l p i = ofA l p := by subst h; unfold ofI ofA; rw [List.take_of_length_le (Nat.le_refl _)]
theorem ofI_len (l : List D.Answer) (p : Int) (i : Nat) : (ofI l p i).length ≤ i := by
  unfold ofI
  have h1 := List.length_filter_le (fun x : D.Answer => decide (x.Page = p)) (l.take i)
  rw [List.length_take] at h1; omega
theorem ofA_len (l : List D.Answer) (p : Int) : (ofA l p).length ≤ l.length := List.length_filter_le _ _
/-! ### Equal lists -/
def intsA (x : D.Answer) : List Int := [x.ID, x.Page, x.Person, x.Kind, x.Arg, x.At]
def sameL (l m : List D.Answer) : Bool := decide (l.length = m.length ∧ ∀ j, j < l.length → intsA (nth l j) = intsA (nth m j))
theorem sameL_refl (l : List D.Answer) : sameL l l = true := decide_eq_true ⟨rfl, fun _ _ => rfl⟩
theorem sameL_yes {l m : List D.Answer} (h1 : l.length = m.length) (h2 : ∀ j, j < l.length → intsA (nth l j) = intsA (nth m j)) : sameL l m = true := decide_eq_true ⟨h1, h2⟩
theorem sameL_no {l m : List D.Answer} (h : l.length ≠ m.length ∨ ∃ j, j < l.length ∧ intsA (nth l j) ≠ intsA (nth m j)) : sameL l m = false := decide_eq_false fun ⟨h1, h2⟩ => by
  rcases h with h | ⟨j, h3, h4⟩
  · exact h h1
  · exact h4 (h2 j h3)
/-! ### Any order -/
theorem ltP_trans {x y z : D.Answer} (h : ltP x y) (h' : ltP y z) : ltP x z := by unfold ltP at *; omega
theorem ltP_irr (x : D.Answer) : ¬ ltP x x := by unfold ltP; omega
theorem ltP_tot {x y : D.Answer} (h : ¬ ltP x y) (hn : x.ID ≠ y.ID) : ltP y x := by unfold ltP at *; omega
theorem sorted_ext : ∀ {a b : List D.Answer}, a.Pairwise ltP → b.Pairwise ltP → (∀ x, x ∈ a ↔ x ∈ b) → a = b
  | [], [], _, _, _ => rfl
  | [], y :: b, _, _, h => by have := (h y).2 (by simp); simp at this
  | x :: a, [], _, _, h => by have := (h x).1 (by simp); simp at this
  | x :: a, y :: b, h1, h2, h => by
    rw [List.pairwise_cons] at h1 h2
    have e : x = y := by
      have hx := (h x).1 (by simp)
      have hy := (h y).2 (by simp)
      rcases List.mem_cons.1 hx with e | hx
      · exact e
      · rcases List.mem_cons.1 hy with e | hy
        · exact e.symm
        · exact absurd (ltP_trans (h1.1 y hy) (h2.1 x hx)) (ltP_irr x)
    subst e
    refine congrArg _ (sorted_ext h1.2 h2.2 fun z => ?_)
    have hz := h z
    constructor
    · intro hm
      have := hz.1 (by simp [hm])
      rcases List.mem_cons.1 this with e | h'
      · subst e; exact absurd (h1.1 z hm) (ltP_irr z)
      · exact h'
    · intro hm
      have := hz.2 (by simp [hm])
      rcases List.mem_cons.1 this with e | h'
      · subst e; exact absurd (h2.1 z hm) (ltP_irr z)
      · exact h'
theorem nth_cons_succ {α : Type} [Inhabited α] (x : α) (l : List α) (i : Nat) : nth (x :: l) (i + 1) = nth l i := rfl
/-- In a list in order, those ahead of the place are less, the others are not. -/
theorem insK_split {l : List D.Answer} {a : D.Answer} (hs : l.Pairwise ltP) : (∀ x ∈ l.take (insK l a l.length), ltP x a) ∧ ∀ x ∈ l.drop (insK l a l.length), ¬ ltP x a := by
  have key : ∀ i, i ≤ l.length → (∀ j, insK l a i ≤ j → j < i → ¬ ltP (nth l j) a) ∧ (0 < insK l a i → ltP (nth l (insK l a i - 1)) a) := by
    intro i
    induction i with
    | zero => intro _; exact ⟨fun j h1 h2 => by omega, fun h => by simp [insK] at h⟩
    | succ i ih =>
      intro hi
      obtain ⟨g1, g2⟩ := ih (by omega)
      by_cases h : ltP (nth l i) a
      · rw [insK_yes h]
        exact ⟨fun j h1 h2 => by omega, fun _ => h⟩
      · rw [insK_no h]
        refine ⟨fun j h1 h2 => ?_, g2⟩
        by_cases e : j = i
        · subst e; exact h
        · exact g1 j h1 (by omega)
  obtain ⟨g1, g2⟩ := key l.length (Nat.le_refl _)
  have hk := insK_le l a l.length
  generalize insK l a l.length = k at g1 g2 hk ⊢
  have hget : ∀ i, i < l.length → l[i]? = some (nth l i) := fun i hi => by unfold nth; rw [List.getD_eq_getElem?_getD, List.getElem?_eq_getElem hi]; rfl
  constructor
  · intro x hx
    obtain ⟨i, hi, e⟩ := List.getElem_of_mem hx
    have hi' : i < k := by rw [List.length_take] at hi; omega
    have hxe : x = nth l i := by
      have := List.getElem?_eq_getElem hi
      rw [e, List.getElem?_take, if_pos hi', hget i (by omega)] at this
      simpa using this.symm
    have hl := g2 (by omega)
    by_cases e' : i = k - 1
    · rw [hxe, e']; exact hl
    · have := List.pairwise_iff_getElem.1 hs i (k - 1) (by omega) (by omega) (by omega)
      have e1 : l[i]'(by omega) = nth l i := by have := hget i (by omega); rw [List.getElem?_eq_getElem (by omega)] at this; simpa using this
      have e2 : l[k - 1]'(by omega) = nth l (k - 1) := by have := hget (k - 1) (by omega); rw [List.getElem?_eq_getElem (by omega)] at this; simpa using this
      rw [e1, e2] at this
      rw [hxe]; exact ltP_trans this hl
  · intro x hx
    obtain ⟨i, hi, e⟩ := List.getElem_of_mem hx
    rw [List.length_drop] at hi
    have hxe : x = nth l (k + i) := by
      have := List.getElem?_eq_getElem (l := l.drop k) (i := i) (by rw [List.length_drop]; exact hi)
      rw [e, List.getElem?_drop, hget (k + i) (by omega)] at this
      simpa using this.symm
    rw [hxe]; exact g1 (k + i) (by omega) (by omega)
/-- A list that holds just those of 'all' whose places are in P, in order. -/
structure Merged (all l : List D.Answer) (P : Nat → Prop) : Prop where
  sorted : l.Pairwise ltP
  mem : ∀ x, x ∈ l ↔ ∃ j, j < all.length ∧ P j ∧ x = nth all j
structure AllOK (all : List D.Answer) : Prop where
  id : ∀ j, j < all.length → (nth all j).ID = ((j : Nat) : Int) + 1
  valid : ∀ j, j < all.length → ansValid (nth all j) = true
  page : ∀ j, j < all.length → 1 ≤ (nth all j).Page ∧ (nth all j).Page ≤ 3
theorem Merged.nil (all : List D.Answer) : Merged all [] fun _ => False := ⟨List.Pairwise.nil, fun x => by simp⟩
theorem Merged.step {all l : List D.Answer} {P : Nat → Prop} (h : Merged all l P) (ha : AllOK all) {j : Nat} (hj : j < all.length) :
    Merged all (mergeA l (nth all j)).1 (fun i => P i ∨ i = j) ∧ (¬ P j → (mergeA l (nth all j)).1.length = l.length + 1) := by
  by_cases hex : ∃ i, i < l.length ∧ (nth l i).ID = (nth all j).ID
  · rw [mergeA_no (.inr hex)]
    obtain ⟨i, h1, h2⟩ := hex
    obtain ⟨j', k1, k2, k3⟩ := (h.mem _).1 (nth_mem h1)
    have e : j' = j := by
      rw [k3, ha.id j' k1, ha.id j hj] at h2; omega
    subst e
    refine ⟨⟨h.sorted, fun x => ?_⟩, fun hn => absurd k2 hn⟩
    rw [h.mem]
    constructor
    · rintro ⟨m, m1, m2, m3⟩; exact ⟨m, m1, .inl m2, m3⟩
    · rintro ⟨m, m1, m2 | m2, m3⟩
      · exact ⟨m, m1, m2, m3⟩
      · subst m2; exact ⟨_, m1, k2, m3⟩
  · have hno : ∀ i, i < l.length → (nth l i).ID ≠ (nth all j).ID := fun i hi e => hex ⟨i, hi, e⟩
    rw [mergeA_yes (ha.valid j hj) hno]
    obtain ⟨g1, g2⟩ := insK_split (a := nth all j) h.sorted
    have hmem : ∀ x ∈ l, x.ID ≠ (nth all j).ID := fun x hx => by
      obtain ⟨i, hi, e⟩ := List.getElem_of_mem hx
      have : nth l i = x := by unfold nth; rw [List.getD_eq_getElem?_getD, List.getElem?_eq_getElem hi, e]; rfl
      rw [← this]; exact hno i hi
    generalize insK l (nth all j) l.length = k at g1 g2 ⊢
    refine ⟨⟨?_, fun x => ?_⟩, fun _ => by simp only [List.length_append, List.length_take, List.length_drop, List.length_cons, List.length_nil]; omega⟩
    · rw [List.append_assoc, List.pairwise_append]
      refine ⟨h.sorted.sublist (List.take_sublist _ _), ?_, ?_⟩
      · rw [List.singleton_append, List.pairwise_cons]
        exact ⟨fun y hy => ltP_tot (g2 y hy) (hmem y (List.mem_of_mem_drop hy)), h.sorted.sublist (List.drop_sublist _ _)⟩
      · intro x hx y hy
        rcases List.mem_append.1 hy with hy | hy
        · have : y = nth all j := by simpa using hy
          subst this; exact g1 x hx
        · have hlt := g1 x hx
          exact ltP_trans hlt (ltP_tot (g2 y hy) (hmem y (List.mem_of_mem_drop hy)))
    · have hsplit : x ∈ l ↔ x ∈ l.take k ∨ x ∈ l.drop k := by rw [← List.mem_append, List.take_append_drop]
      rw [List.mem_append, List.mem_append]
      constructor
      · rintro ((hx | hx) | hx)
        · obtain ⟨m, m1, m2, m3⟩ := (h.mem x).1 (hsplit.2 (.inl hx)); exact ⟨m, m1, .inl m2, m3⟩
        · exact ⟨j, hj, .inr rfl, by simpa using hx⟩
        · obtain ⟨m, m1, m2, m3⟩ := (h.mem x).1 (hsplit.2 (.inr hx)); exact ⟨m, m1, .inl m2, m3⟩
      · rintro ⟨m, m1, m2 | m2, m3⟩
        · rcases hsplit.1 ((h.mem x).2 ⟨m, m1, m2, m3⟩) with hx | hx
          · exact .inl (.inl hx)
          · exact .inr hx
        · subst m2; exact .inl (.inr (by simp [m3]))
theorem Merged.congr {all l : List D.Answer} {P Q : Nat → Prop} (h : Merged all l P) (hpq : ∀ j, j < all.length → (P j ↔ Q j)) : Merged all l Q :=
  ⟨h.sorted, fun x => (h.mem x).trans ⟨fun ⟨j, h1, h2, h3⟩ => ⟨j, h1, (hpq j h1).1 h2, h3⟩, fun ⟨j, h1, h2, h3⟩ => ⟨j, h1, (hpq j h1).2 h2, h3⟩⟩⟩
theorem Merged.same {all a b : List D.Answer} {P Q : Nat → Prop} (h : Merged all a P) (h' : Merged all b Q) (hp : ∀ j, j < all.length → P j) (hq : ∀ j, j < all.length → Q j) : a = b :=
  sorted_ext h.sorted h'.sorted fun x => (h.mem x).trans (⟨fun ⟨j, h1, _, h3⟩ => ⟨j, h1, hq j h1, h3⟩, fun ⟨j, h1, _, h3⟩ => ⟨j, h1, hp j h1, h3⟩⟩ : _ ↔ _) |>.trans (h'.mem x).symm
theorem pages_sum : ∀ (l : List D.Answer), (∀ x ∈ l, 1 ≤ x.Page ∧ x.Page ≤ 3) → (ofA l 1).length + (ofA l 2).length + (ofA l 3).length = l.length
  | [], _ => rfl
  | x :: r, h => by
    have ih := pages_sum r (fun y hy => h y (by simp [hy]))
    have hx := h x (by simp)
    unfold ofA at ih ⊢
    have : x.Page = 1 ∨ x.Page = 2 ∨ x.Page = 3 := by omega
    rcases this with e | e | e <;> simp [List.filter_cons, e] <;> omega
theorem Merged.pages {all l : List D.Answer} {P : Nat → Prop} (h : Merged all l P) (ha : AllOK all) : (ofA l 1).length + (ofA l 2).length + (ofA l 3).length = l.length :=
  pages_sum l fun x hx => by obtain ⟨j, h1, _, rfl⟩ := (h.mem x).1 hx; exact ha.page j h1
def ofSum (l : List D.Answer) : Nat → Nat
  | 0 => 0
  | n + 1 => ofSum l n + (ofA l (((n + 1 : Nat) : Int))).length
theorem ofSum_len (l : List D.Answer) : ∀ n, ofSum l n ≤ n * l.length
  | 0 => by simp [ofSum]
  | n + 1 => by
    have h1 := ofSum_len l n
    have h2 := ofA_len l (((n + 1 : Nat) : Int))
    rw [ofSum, Nat.succ_mul]; omega
theorem ofSum_three (l : List D.Answer) : ofSum l 3 = (ofA l 1).length + (ofA l 2).length + (ofA l 3).length := by simp [ofSum]
theorem AllOK.nil : AllOK [] := ⟨fun j h => by simp at h, fun j h => by simp at h, fun j h => by simp at h⟩
theorem AllOK.snoc {all : List D.Answer} (h : AllOK all) {a : D.Answer} (h1 : a.ID = ((all.length : Nat) : Int) + 1) (h2 : ansValid a = true) (h3 : 1 ≤ a.Page ∧ a.Page ≤ 3) : AllOK (all ++ [a]) := by
  have key : ∀ j, j < (all ++ [a]).length → (j < all.length ∧ nth (all ++ [a]) j = nth all j) ∨ (j = all.length ∧ nth (all ++ [a]) j = a) := fun j hj => by
    rw [List.length_append] at hj
    simp only [List.length_cons, List.length_nil] at hj
    rcases Nat.lt_or_ge j all.length with h' | h'
    · left; exact ⟨h', nth_append_left h'⟩
    · right
      have : j = all.length := by omega
      subst this; exact ⟨rfl, nth_append_len⟩
  refine ⟨fun j hj => ?_, fun j hj => ?_, fun j hj => ?_⟩ <;> rcases key j hj with ⟨k1, k2⟩ | ⟨k1, k2⟩ <;> rw [k2]
  · exact h.id j k1
  · rw [k1]; exact h1
  · exact h.valid j k1
  · exact h2
  · exact h.page j k1
  · exact h3
theorem ansP_valid (L : List Int) (i : Nat) {id page at_ : Int} (h1 : 1 ≤ id ∧ id ≤ 999999) (h2 : 1 ≤ page ∧ page ≤ 999999) (h3 : 0 ≤ at_ ∧ at_ ≤ 8589934592) : ansValid (ansP L i id page at_) = true := by
  have g1 := nextN_lt L i 5 (by omega)
  have g2 := nextN_lt L (nextI L i 5) 5 (by omega)
  have h4 := ansP_arg L i
  unfold ansValid
  have e1 : inB (ansP L i id page at_).ID 1 999999 = true := inB_true h1
  have e2 : inB (ansP L i id page at_).Page 1 999999 = true := inB_true h2
  have e3 : inB (ansP L i id page at_).Person (-1) 31 = true := inB_true ⟨by simp only [ansP]; omega, by simp only [ansP]; omega⟩
  have e4 : inB (ansP L i id page at_).At 0 8589934592 = true := inB_true h3
  have e5 : inB (ansP L i id page at_).Kind 1 5 = true := inB_true ⟨by simp only [ansP, ansK]; omega, by simp only [ansP, ansK]; omega⟩
  rw [e1, e2, e3, e4, e5]
  exact h4.1
end Go.Proofs.YtimfbibaoppfcaaGreatDoor
