/-
  Lists that are changed in place: what filtering, sorting by insertion and leaving out neighbours that are equal keep. Plain.
-/
import Derived.Test.YtfhcigjkfelnfaaGreatQRowEscalateDeclinesE
import Derived.Test.YtfhcigjkfelnfaaGreatQRowEscalateDeclinesA
set_option maxRecDepth 100000
set_option linter.unusedVariables false
set_option linter.unusedSimpArgs false
namespace Go.Proofs.YtfhcigjkfelnfaaGreat
open Go AM
theorem take_succ_nth {l : List Int} {i : Nat} (h : i < l.length) : l.take (i + 1) = l.take i ++ [nth l i] := (take_snoc' h).symm
structure DelInv (p0 : List Int) (q : Int → Bool) (w j : Nat) (a : List Int) : Prop where
  len : a.length = p0.length
  wj : w ≤ j ∧ j ≤ p0.length
  done : a.take w = (p0.take j).filter q
  rest : ∀ k, j ≤ k → nth a k = nth p0 k
theorem filter_all {l : List Int} {q : Int → Bool} {i : Nat} (hi : i ≤ l.length) (h : ∀ j, j < i → q (nth l j) = true) : (l.take i).filter q = l.take i := by
  refine List.filter_eq_self.2 fun x hx => ?_
  obtain ⟨k, hk, rfl⟩ := List.getElem_of_mem hx
  rw [List.length_take] at hk
  have := h k (by omega)
  simpa [nth, List.getD_eq_getElem?_getD, List.getElem?_eq_getElem (show k < l.length by omega)] using this
theorem del_start {p0 : List Int} {q : Int → Bool} {i : Nat} (hi : i < p0.length) (h : ∀ j, j < i → q (nth p0 j) = true) (hx : q (nth p0 i) = false) : DelInv p0 q i (i + 1) p0 := by
  refine ⟨rfl, by omega, ?_, fun k _ => rfl⟩
  rw [take_succ_nth hi, List.filter_append, filter_all (by omega) h]
  simp [hx]
theorem del_keep {p0 a : List Int} {q : Int → Bool} {w j : Nat} (h : DelInv p0 q w j a) (hj : j < p0.length) (hx : q (nth a j) = true) : DelInv p0 q (w + 1) (j + 1) (a.set w (nth a j)) := by
  have h1 := h.wj
  have h2 := h.len
  refine ⟨by simp [h.len], by omega, ?_, fun k hk => ?_⟩
  · rw [h.rest j (Nat.le_refl _)] at hx ⊢
    rw [take_succ_nth hj, List.filter_append, ← h.done, take_succ_nth (by simp; omega), nth_set (by omega), if_pos rfl, List.take_set_of_le (by omega)]
    simp [hx]
  · rw [nth_set (by omega), if_neg (by omega)]; exact h.rest k (by omega)
theorem del_skip {p0 a : List Int} {q : Int → Bool} {w j : Nat} (h : DelInv p0 q w j a) (hj : j < p0.length) (hx : q (nth a j) = false) : DelInv p0 q w (j + 1) a := by
  have h1 := h.wj
  refine ⟨h.len, by omega, ?_, fun k hk => h.rest k (by omega)⟩
  rw [h.rest j (Nat.le_refl _)] at hx
  rw [take_succ_nth hj, List.filter_append, ← h.done]
  simp [hx]
def InTo (l : List Int) (m : Nat) (z : Int) : Prop := ∃ k, k < m ∧ nth l k = z
theorem inTo_mem {l : List Int} {m : Nat} {z : Int} (hm : m ≤ l.length) : InTo l m z ↔ z ∈ l.take m := by
  constructor
  · rintro ⟨k, hk, rfl⟩
    have : nth (l.take m) k = nth l k := by
      simp only [nth, List.getD_eq_getElem?_getD, List.getElem?_take]
      rw [if_pos hk]
    rw [← this]
    exact nth_mem (by simp; omega)
  · intro h
    obtain ⟨k, hk, rfl⟩ := List.getElem_of_mem h
    rw [List.length_take] at hk
    exact ⟨k, by omega, by simp [nth, List.getD_eq_getElem?_getD, List.getElem?_eq_getElem (show k < l.length by omega)]⟩
theorem swap_into {l : List Int} {j m : Nat} {z : Int} (h1 : 1 ≤ j) (hj : j < l.length) (hm : j < m) : InTo (swapL l j) m z ↔ InTo l m z := by
  unfold InTo
  constructor
  · rintro ⟨k, hk, e⟩
    rw [nth_swap h1 hj] at e
    split at e
    · exact ⟨j, hm, e⟩
    · split at e
      · exact ⟨j - 1, by omega, e⟩
      · exact ⟨k, hk, e⟩
  · rintro ⟨k, hk, e⟩
    by_cases g1 : k = j
    · subst g1; exact ⟨k - 1, by omega, by rw [nth_swap h1 hj, if_pos rfl]; exact e⟩
    · by_cases g2 : k = j - 1
      · subst g2; exact ⟨j, hm, by rw [nth_swap h1 hj, if_neg (by omega), if_pos rfl]; exact e⟩
      · exact ⟨k, hk, by rw [nth_swap h1 hj, if_neg g2, if_neg g1]; exact e⟩
def AscTo (l : List Int) (n : Nat) : Prop := ∀ k, 1 ≤ k → k < n → nth l (k - 1) < nth l k
theorem ascTo_take {l : List Int} {n : Nat} (hn : n ≤ l.length) (h : AscTo l n) : Asc (l.take n) := by
  have hnth : ∀ k, k < n → nth (l.take n) k = nth l k := fun k hk => by
    simp only [nth, List.getD_eq_getElem?_getD, List.getElem?_take]
    rw [if_pos hk]
  have hlt : ∀ b, b < n → ∀ a, a < b → nth l a < nth l b := by
    intro b
    induction b with
    | zero => intro _ a ha; omega
    | succ b ih =>
      intro hb a ha
      have h1 := h (b + 1) (by omega) hb
      rw [Nat.add_sub_cancel] at h1
      by_cases e : a = b
      · subst e; exact h1
      · have := ih (by omega) a (by omega); omega
  have hl : (l.take n).length = n := by simp; omega
  refine asc_of (fun a b hab hb => ?_) (fun k h1 h2 => ?_)
  · rw [hl] at hb; rw [hnth a (by omega), hnth b hb]; have := hlt b hb a hab; omega
  · rw [hl] at h2; rw [hnth _ (by omega), hnth k h2]; have := h k h1 h2; omega
structure CmpInv (p0 : List Int) (m o i k : Nat) (a : List Int) : Prop where
  len : a.length = p0.length
  ik : 1 ≤ i ∧ i < o + k ∧ o + k ≤ m ∧ 1 ≤ k
  rest : ∀ j, o + k ≤ j + 1 → nth a j = nth p0 j
  asc : AscTo a i
  last : nth a (i - 1) = nth p0 (o + k - 1)
  mem : ∀ z, InTo a i z ↔ InTo p0 (o + k) z
theorem cmp_start {p0 : List Int} {m o : Nat} (ho : 1 ≤ o) (hm : o < m) (ha : AscTo p0 o) (he : nth p0 o = nth p0 (o - 1)) : CmpInv p0 m o o 1 p0 := by
  refine ⟨rfl, by omega, fun _ _ => rfl, ha, by rw [Nat.add_sub_cancel]; exact he.symm, fun z => ⟨?_, ?_⟩⟩
  · rintro ⟨k, hk, e⟩; exact ⟨k, by omega, e⟩
  · rintro ⟨k, hk, e⟩
    by_cases h : k = o
    · subst h; exact ⟨k - 1, by omega, by rw [← he]; exact e⟩
    · exact ⟨k, by omega, e⟩
theorem cmp_new {p0 a : List Int} {m o i k : Nat} (h : CmpInv p0 m o i k a) (hk : o + k < m) (hml : m ≤ p0.length) (hs : SortedTo p0 m) (hne : nth a (o + k) ≠ nth a (o + k - 1)) : CmpInv p0 m o (i + 1) (k + 1) (a.set i (nth a (o + k))) := by
  have h1 := h.ik
  have h2 := h.len
  have e1 := h.rest (o + k) (by omega)
  have e2 := h.rest (o + k - 1) (by omega)
  have hlt : nth p0 (o + k - 1) < nth p0 (o + k) := by
    have := hs (o + k - 1) (o + k) (by omega) hk
    rw [e1, e2] at hne; omega
  have hset : ∀ j, nth (a.set i (nth a (o + k))) j = if j = i then nth p0 (o + k) else nth a j := fun j => by rw [nth_set (by omega), e1]
  refine ⟨by simp [h.len], by omega, fun j hj => ?_, fun j hj1 hj2 => ?_, ?_, fun z => ⟨?_, ?_⟩⟩
  · rw [hset, if_neg (by omega)]; exact h.rest j (by omega)
  · rw [hset, hset, if_neg (show j - 1 ≠ i by omega)]
    by_cases e : j = i
    · rw [if_pos e, e, h.last]; exact hlt
    · rw [if_neg e]; exact h.asc j hj1 (by omega)
  · rw [hset, Nat.add_sub_cancel, if_pos rfl, show o + (k + 1) - 1 = o + k by omega]
  · rintro ⟨j, hj, e⟩
    rw [hset] at e
    split at e
    · exact ⟨o + k, by omega, e⟩
    · obtain ⟨j', hj', e'⟩ := (h.mem z).1 ⟨j, by omega, e⟩
      exact ⟨j', by omega, e'⟩
  · rintro ⟨j, hj, e⟩
    by_cases g : j = o + k
    · exact ⟨i, by omega, by rw [hset, if_pos rfl, ← g]; exact e⟩
    · obtain ⟨j', hj', e'⟩ := (h.mem z).2 ⟨j, by omega, e⟩
      exact ⟨j', by omega, by rw [hset, if_neg (by omega)]; exact e'⟩
theorem cmp_old {p0 a : List Int} {m o i k : Nat} (h : CmpInv p0 m o i k a) (hk : o + k < m) (he : nth a (o + k) = nth a (o + k - 1)) : CmpInv p0 m o i (k + 1) a := by
  have h1 := h.ik
  have e1 := h.rest (o + k) (by omega)
  have e2 := h.rest (o + k - 1) (by omega)
  have e3 : nth p0 (o + k) = nth p0 (o + k - 1) := by rw [← e1, ← e2]; exact he
  refine ⟨h.len, by omega, fun j hj => h.rest j (by omega), h.asc, by rw [h.last, show o + (k + 1) - 1 = o + k by omega]; exact e3.symm, fun z => ⟨fun hz => ?_, ?_⟩⟩
  · obtain ⟨j', hj', e'⟩ := (h.mem z).1 hz
    exact ⟨j', by omega, e'⟩
  · rintro ⟨j, hj, e⟩
    by_cases g : j = o + k
    · exact (h.mem z).2 ⟨o + k - 1, by omega, by rw [← e3, ← g]; exact e⟩
    · exact (h.mem z).2 ⟨j, by omega, e⟩
end Go.Proofs.YtfhcigjkfelnfaaGreat
/-
  People whom targets mean: what the program and the reference compute.
-/
set_option maxRecDepth 100000
set_option linter.unusedVariables false
set_option linter.unusedSimpArgs false
namespace Go.Proofs.YtfhcigjkfelnfaaGreat
open Go AM
variable {t p : Int} {n : Nat} {c : D.Config} {b : D.Book}
theorem less_is {x y : Int} : cmp_Less_int 1000 x y = some (decide (x < y)) := by
  unfold cmp_Less_int cmp_isNaN_int
  by_cases h : x < y <;> simp [optc, AM.cnd, h]
theorem isort_ok {l0 : List Int} {m : Nat} (hm : m ≤ l0.length) (hs : m ≤ 900) :
    Ok (slices_insertionSortOrdered_int_0v 1000 0 m l0 0 (m : Int)) fun r => r.length = l0.length ∧ SortedTo r m ∧ ∀ z, InTo r m z ↔ InTo l0 m z := by
  unfold slices_insertionSortOrdered_int_0v
  refine Ok.loop (fun q x => ∃ i a, x = ((0, m, 0, (m : Int), ((i : Nat) : Int), ()), a, ()) ∧ 1 ≤ i ∧ a.length = l0.length ∧ SortedTo a (min i m) ∧ (∀ z, InTo a m z ↔ InTo l0 m z) ∧ q = m + 1 - i) (m := m) (by omega)
    ⟨1, l0, by rw [wrap_id (by omega)]; rfl, by omega, rfl, fun a b h1 h2 => by omega, fun z => Iff.rfl, by omega⟩ ?_
  rintro q x ⟨i, a, rfl, h1, h2, h3, h4, rfl⟩ K hK
  dsimp only
  refine Ok.ite (fun hi => ?_) (fun hi => Ok.s ⟨h2, by rw [show min i m = m by omega] at h3; exact h3, h4⟩)
  have hlt : i < m := by omega
  rw [show min i m = i by omega] at h3
  refine Ok.j ?_
  refine Ok.loop (fun q x => ∃ j a', x = ((0, m, 0, (m : Int), ((i : Nat) : Int), ((j : Nat) : Int), ()), a', ()) ∧ j ≤ i ∧ a'.length = l0.length ∧ ButFor a' (i + 1) j ∧ (∀ z, InTo a' m z ↔ InTo l0 m z) ∧ q = j) (m := i) (by omega)
    ⟨i, a, rfl, by omega, h2, butfor_start h3, h4, rfl⟩ ?_
  rintro q x ⟨j, a', rfl, g1, g2, g3, g4, hqj⟩ K2 hK2
  dsimp only
  have fin : (j = 0 ∨ nth a' (j - 1) ≤ nth a' j) → Ok (K ((0, m, 0, (m : Int), IntKind.wrap .i64 ((i : Int) + 1), ()), a', ())) fun r => r.length = l0.length ∧ SortedTo r m ∧ ∀ z, InTo r m z ↔ InTo l0 m z := fun he => by
    rw [wrap_succ (by omega)]
    exact hK (m + 1 - (i + 1)) _ (by omega) ⟨i + 1, a', rfl, by omega, g2, by rw [show min (i + 1) m = i + 1 by omega]; exact butfor_end g3 he, g4, rfl⟩
  refine Ok.j (Ok.ite (fun hj => ?_) (fun hj => fin (.inl (by omega))))
  have hw : IntKind.wrap .i64 ((j : Int) - 1) = ((j - 1 : Nat) : Int) := by rw [wrap_id (by omega)]; omega
  rw [hw]
  refine Ok.natn (Ok.lt (by omega) ?_)
  rw [Nat.zero_add]
  refine Ok.get (by omega) (Ok.natn (Ok.lt (by omega) ?_))
  rw [Nat.zero_add]
  refine Ok.get (by omega) (Ok.oe less_is (Ok.ite (fun hless => ?_) (fun hless => fin (.inr (by omega)))))
  dsimp only
  rw [hw]
  refine Ok.natn (Ok.lt (by omega) ?_)
  rw [Nat.zero_add]
  refine Ok.get (by omega) (Ok.natn (Ok.lt (by omega) ?_))
  refine Ok.get (by omega) (Ok.natn (Ok.lt (by omega) ?_))
  refine Ok.get (by omega) (Ok.natn (Ok.lt (by omega) ?_))
  refine Ok.get (by simp; omega) ?_
  have hsw : (a'.set (0 + j) (nth a' (j - 1))).set (0 + (j - 1)) (nth a' (0 + j)) = swapL a' j := by simp only [Nat.zero_add]; rfl
  rw [hsw]
  exact hK2 (j - 1) _ (by omega) ⟨j - 1, swapL a' j, rfl, by omega, by rw [swap_len]; exact g2, butfor_step g3 (by omega) (by omega) (by omega) hless, fun z => (swap_into (by omega) (by omega) (by omega)).trans (g4 z), rfl⟩
theorem bits_ok : ∀ m : Nat, m < 13 → (math_bits_Len 1000 (IntKind.wrap .u64 ((m : Nat) : Int))).isSome = true := by decide
theorem sort_ok {l0 : List Int} {m : Nat} (hm : m ≤ l0.length) (hs : m ≤ 12) :
    Ok (slices_Sort_int_0v 1000 0 m l0) fun r => r.length = l0.length ∧ SortedTo r m ∧ ∀ z, InTo r m z ↔ InTo l0 m z := by
  unfold slices_Sort_int_0v
  rw [Nat.sub_zero]
  obtain ⟨bv, hb⟩ := Option.isSome_iff_exists.1 (bits_ok m (by omega))
  refine Ok.oe hb (Ok.opt (P := fun r => r.length = l0.length ∧ SortedTo r m ∧ ∀ z, InTo r m z ↔ InTo l0 m z) ?_ fun r hr => Ok.ck hr.1 (Ok.s hr))
  unfold slices_pdqsortOrdered_int_0v
  refine Ok.loop (fun q x => x = ((0, m, 0, (m : Int), bv, true, true, ()), l0, ())) (m := 0) (by omega) rfl ?_
  rintro q x rfl K hK
  dsimp only
  refine Ok.p (by rw [wrap_id (by omega)]; omega) (Ok.opt (isort_ok hm (by omega)) fun r hr => Ok.ck hr.1 (Ok.s hr))
theorem compact_ok {l0 : List Int} {m : Nat} (hm : m ≤ l0.length) (hs : m ≤ 900) (hl : l0.length ≤ 34359738368) (hso : SortedTo l0 m) :
    Ok (slices_Compact_int_0v 1000 0 m l0) fun r => r.1 = 0 ∧ r.2.1 ≤ m ∧ r.2.2.length = l0.length ∧ Asc (r.2.2.take r.2.1) ∧ ∀ z, z ∈ r.2.2.take r.2.1 ↔ InTo l0 m z := by
  have done : ∀ (a : List Int) (i : Nat), a.length = l0.length → i ≤ m → AscTo a i → (∀ z, InTo a i z ↔ InTo l0 m z) → Asc (a.take i) ∧ ∀ z, z ∈ a.take i ↔ InTo l0 m z := fun a i h1 h2 h3 h4 =>
    ⟨ascTo_take (by omega) h3, fun z => by rw [← inTo_mem (by omega)]; exact h4 z⟩
  unfold slices_Compact_int_0v
  rw [Nat.sub_zero]
  refine Ok.ite (fun h => Ok.s ⟨rfl, Nat.le_refl _, rfl, done l0 m rfl (Nat.le_refl _) (fun k h1 h2 => by omega) fun z => Iff.rfl⟩) fun h => ?_
  refine Ok.loop (fun q x => ∃ i : Nat, x = ((0, m, ((i : Nat) : Int), ()), l0, ()) ∧ 1 ≤ i ∧ i ≤ m ∧ AscTo l0 i ∧ q = m - i) (m := m - 1) (by omega) ⟨1, rfl, by omega, by omega, fun k h1 h2 => by omega, rfl⟩ ?_
  rintro q x ⟨i, rfl, h1, h2, h3, rfl⟩ K hK
  dsimp only
  rw [Nat.sub_zero]
  refine Ok.ite (fun hi => ?_) (fun hi => ?_)
  · have hw : IntKind.wrap .i64 ((i : Int) - 1) = ((i - 1 : Nat) : Int) := by rw [wrap_id (by omega)]; omega
    rw [hw]
    refine Ok.natn (Ok.lt (by omega) ?_)
    rw [Nat.zero_add]
    refine Ok.get (by omega) (Ok.natn (Ok.lt (by omega) ?_))
    rw [Nat.zero_add]
    refine Ok.get (by omega) (Ok.ite (fun he => ?_) (fun hne => ?_))
    · refine Ok.natn (Ok.lt (by omega) ?_)
      rw [Nat.zero_add, Nat.zero_add]
      refine Ok.loop (fun q x => ∃ (w k : Nat) (a : List Int), x = ((0, m, ((w : Nat) : Int), i, m, ((k : Nat) : Int), ()), a, ()) ∧ CmpInv l0 m i w k a ∧ q = m - i - k) (m := m - i - 1) (by omega) ⟨i, 1, l0, rfl, cmp_start h1 (by omega) h3 he, rfl⟩ ?_
      rintro q x ⟨w, k, a, rfl, hinv, rfl⟩ K2 hK2
      have hik := hinv.ik
      have hal := hinv.len
      dsimp only
      refine Ok.ite (fun hk => ?_) (fun hk => ?_)
      · have hw2 : IntKind.wrap .i64 ((k : Int) - 1) = ((k - 1 : Nat) : Int) := by rw [wrap_id (by omega)]; omega
        rw [hw2]
        refine Ok.j (Ok.natn (Ok.lt (by omega) (Ok.get (by omega) (Ok.natn (Ok.lt (by omega) (Ok.get (by omega) ?_))))))
        refine Ok.ite (fun hd => ?_) (fun hd => ?_)
        · refine Ok.natn (Ok.lt (by omega) (Ok.get (by omega) (Ok.natn (Ok.lt (by omega) ?_))))
          rw [Nat.zero_add]
          refine Ok.get (by omega) ?_
          dsimp only
          rw [wrap_succ (by omega), wrap_succ (by omega)]
          exact hK2 (m - i - (k + 1)) _ (by omega) ⟨w + 1, k + 1, _, rfl, cmp_new hinv (by omega) hm hso (by rw [show i + k - 1 = i + (k - 1) by omega]; exact hd), rfl⟩
        · dsimp only
          rw [wrap_succ (by omega)]
          exact hK2 (m - i - (k + 1)) _ (by omega) ⟨w, k + 1, a, rfl, cmp_old hinv (by omega) (by rw [show i + k - 1 = i + (k - 1) by omega]; exact Decidable.not_not.1 hd), rfl⟩
      · have ek : i + k = m := by omega
        refine Ok.natn (Ok.lt (by omega) (Ok.lec (by omega) (Ok.lec (by omega) (Ok.natn (Ok.lec (by omega) (Ok.s ?_))))))
        simp only [Nat.zero_add, Nat.sub_zero, Nat.add_zero]
        have hd := done a w hal (by omega) hinv.asc (by rw [← ek]; exact hinv.mem)
        have ht : (List.take w a ++ List.replicate (m - w) 0 ++ List.drop m a).take w = a.take w := by
          rw [List.append_assoc, List.take_append_of_le_length (by simp; omega), List.take_take, Nat.min_self]
        refine ⟨trivial, by omega, by simp; omega, ?_, ?_⟩
        · rw [ht]; exact hd.1
        · rw [ht]; exact hd.2
    · rw [wrap_succ (by omega)]
      have hlt : nth l0 (i - 1) < nth l0 i := by
        have := hso (i - 1) i (by omega) (by omega); omega
      refine hK (m - (i + 1)) _ (by omega) ⟨i + 1, rfl, by omega, by omega, fun k a1 a2 => ?_, rfl⟩
      by_cases e : k = i
      · subst e; exact hlt
      · exact h3 k a1 (by omega)
  · obtain rfl : i = m := by omega
    exact Ok.s ⟨rfl, Nat.le_refl _, rfl, done l0 i rfl (Nat.le_refl _) h3 fun z => Iff.rfl⟩
def inC (x : Int) : Bool := decide (0 ≤ x ∧ x ≤ 3)
theorem pIn {fu : Nat} {n lo hi : Int} : policy_in fu n lo hi = some (decide (lo ≤ n ∧ n ≤ hi)) := cnd2
theorem people1 (h : CfgOK n c) {x : Int} : policy_People_1 1000 x c = some (!inC x) := by
  unfold policy_People_1
  rw [h.plen, show IntKind.wrap .i64 (((4 : Nat) : Int) - 1) = 3 from rfl, pIn, optc_s, sameC_p]
  rfl
theorem delP_ok (h : CfgOK n c) {l0 : List Int} (hl : l0.length ≤ 900) :
    Ok (slices_DeleteFunc_int_1Fpolicy_People_1_0 1000 l0 c) fun r => r.1 = 0 ∧ r.2.1 ≤ l0.length ∧ r.2.2.length = l0.length ∧ r.2.2.take r.2.1 = l0.filter inC := by
  unfold slices_DeleteFunc_int_1Fpolicy_People_1_0
  have hidx : Ok (slices_IndexFunc_int_1Fpolicy_People_1_0 1000 l0 c) fun r => r = -1 ∧ (∀ j, j < l0.length → inC (nth l0 j) = true) ∨ ∃ i : Nat, r = (i : Int) ∧ i < l0.length ∧ inC (nth l0 i) = false ∧ ∀ j, j < i → inC (nth l0 j) = true := by
    unfold slices_IndexFunc_int_1Fpolicy_People_1_0
    refine Ok.scan l0.length (fun i => ((((l0.length : Nat) : Int), (i : Int), ()), c, l0, ())) (fun i => !inC (nth l0 i)) rfl (by omega) (fun i hi hq hj k => ?_) (fun i hi hq k hk => ?_) (fun hq k => ?_)
    · refine Ok.p (by omega) (Ok.natn (Ok.lt hi (Ok.get hi (Ok.oe (people1 h) (Ok.bt hq (Ok.sameC (Ok.sameC (Ok.s (.inr ⟨i, rfl, hi, by simpa using hq, fun j hj' => by simpa using hj j hj'⟩)))))))))
    · refine Ok.p (by omega) (Ok.natn (Ok.lt hi (Ok.get hi (Ok.oe (people1 h) (Ok.bf hq ?_)))))
      rw [wrap_succ (by omega)]; exact hk
    · exact Ok.n (by omega) (Ok.sameC (Ok.sameC (Ok.s (.inl ⟨rfl, fun j hj => by simpa using hq j hj⟩))))
  refine Ok.opt hidx fun r hr => ?_
  rcases hr with ⟨rfl, hall⟩ | ⟨i, rfl, hi, hx, hj⟩
  · refine Ok.p rfl (Ok.sameC (Ok.s ⟨rfl, Nat.le_refl _, rfl, ?_⟩))
    have := filter_all (q := inC) (Nat.le_refl _) hall
    rw [List.take_length] at this ⊢
    exact this.symm
  · refine Ok.n (by omega) ?_
    rw [wrap_succ (by omega)]
    refine Ok.loop (fun q x => ∃ (w j : Nat) (a : List Int), x = ((((w : Nat) : Int), ((j : Nat) : Int), ()), c, a, ()) ∧ DelInv l0 inC w j a ∧ q = l0.length - j) (m := l0.length - (i + 1)) (by omega) ⟨i, i + 1, l0, rfl, del_start hi hj hx, rfl⟩ ?_
    rintro q x ⟨w, j, a, rfl, hinv, rfl⟩ K hK
    have h1 := hinv.wj
    have h2 := hinv.len
    dsimp only
    refine Ok.ite (fun hlt => ?_) (fun hge => ?_)
    · refine Ok.j (Ok.natn (Ok.lt (by omega) (Ok.get (by omega) (Ok.oe (people1 h) ?_))))
      rw [Bool.not_not]
      refine Ok.cnd (fun hq => ?_) (fun hq => ?_)
      · refine Ok.natn (Ok.lt (by omega) (Ok.get (by omega) ?_))
        dsimp only
        rw [wrap_succ (by omega), wrap_succ (by omega)]
        exact hK _ _ (by omega) ⟨w + 1, j + 1, _, rfl, del_keep hinv (by omega) hq, rfl⟩
      · dsimp only
        rw [wrap_succ (by omega)]
        exact hK _ _ (by omega) ⟨w, j + 1, a, rfl, del_skip hinv (by omega) hq, rfl⟩
    · have ej : j = l0.length := by omega
      have hd := hinv.done
      rw [ej, List.take_length] at hd
      refine Ok.natn (Ok.lec (by omega) (Ok.lec (by omega) (Ok.lec (by omega) (Ok.natn (Ok.lec (by simp; omega) (Ok.sameC (Ok.s ?_)))))))
      refine ⟨rfl, by dsimp only; omega, by simp; omega, ?_⟩
      dsimp only
      rw [List.append_assoc, List.take_append_of_le_length (by simp; omega), List.take_take, Nat.min_self]
      exact hd
def meantP (c : D.Config) (b : D.Book) (x : D.Target) (t : Int) : List Int := if x.Kind = 0 then [x.Index] else if x.Kind = 1 then [whoV c x.Index t] else (nth b.Teams x.Index.toNat).Members
theorem meant_ok {x : D.Target} (h : CfgOK n c) (hn : n ≤ 48) (hb : BookOK b) (hx : TargetOK b.Teams.length x) : policy_meant 1000 c b x t = some (meantP c b x t) := by
  have hpl := h.plen; have hsl := h.slen; have htl := hb.tlen
  have h1 := hx.lo; have h2 := hx.person; have h3 := hx.sched; have h4 := hx.team
  have hsz : policy_sizes 1000 c b = some ⟨4, 2, ((b.Teams.length : Nat) : Int)⟩ := by unfold policy_sizes; rw [hpl, hsl]; rfl
  refine Ok.eq ?_
  unfold policy_meant meantP
  refine Ok.j (Ok.oe pIn (Ok.p (by have := hx.kind; omega) (Ok.oe hsz ?_)))
  dsimp only
  rcases hx.kind with hk | hk | hk
  · have := h2 hk
    refine Ok.p (by omega) (Ok.oe pIn (Ok.p (by rw [wrap_id (by omega)]; omega) (Ok.n (by omega) (Ok.n (by omega) (Ok.s ?_)))))
    rw [if_pos hk]
  · have := h3 hk
    refine Ok.n (by omega) (Ok.p (by omega) (Ok.oe pIn (Ok.p (by rw [wrap_id (by omega)]; omega) (Ok.p hk (Ok.oe (who_is h hn) (Ok.s ?_))))))
    rw [if_neg (by omega), if_pos hk]
  · have := h4 hk
    refine Ok.n (by omega) (Ok.n (by omega) (Ok.p (by omega) (Ok.oe pIn (Ok.p (by rw [wrap_id (by omega)]; omega) (Ok.n (by omega) (Ok.p hk (Ok.at h1 (by omega) (Ok.s ?_))))))))
    rw [if_neg (by omega), if_neg (by omega)]
theorem meantP_len {x : D.Target} (hb : BookOK b) (hx : TargetOK b.Teams.length x) : (meantP c b x t).length ≤ 2 := by
  unfold meantP
  split
  · simp
  · split
    · simp
    · have h4 := hx.team (by have := hx.kind; omega)
      have h1 := hx.lo
      exact (hb.team _ (nth_mem (by omega))).len.2
theorem meantP_mem {x : D.Target} {z : Int} (h : CfgOK n c) (hx : TargetOK b.Teams.length x) (hz : 0 ≤ z ∧ z ≤ 3) : z ∈ meantP c b x t ↔ z ∈ meantV c b x t := by
  unfold meantP meantV
  have h1 := hx.lo; have h4 := hx.team
  rcases hx.kind with hk | hk | hk
  · rw [if_pos hk, if_pos hk]
  · rw [if_neg (by omega), if_pos hk, if_neg (by omega), if_pos hk]
    split
    · simp; omega
    · rfl
  · rw [if_neg (by omega), if_neg (by omega), if_neg (by omega), if_neg (by omega), if_pos ⟨hk, h1, h4 hk⟩]
theorem people_ok {l : List D.Target} (h : CfgOK n c) (hn : n ≤ 48) (hb : BookOK b) (hl : ∀ x ∈ l, TargetOK b.Teams.length x) (hlen : l.length ≤ 6) :
    Ok (policy_People 1000 c b l t) fun r => r.1 = 0 ∧ r.2.1 ≤ r.2.2.length ∧ r.2.2.length ≤ 12 ∧ r.2.2.take r.2.1 = peopleV c b l t := by
  unfold policy_People
  refine Ok.run l.length (fun i => ((t, l, ((l.length : Nat) : Int), (i : Int), ()), c, b, (l.take i).flatMap (fun x => meantP c b x t), ())) (by simp) (by omega) (fun i hi k hk => ?_) (fun k => ?_)
  · dsimp only
    have hx := hl _ (nth_mem hi)
    have hle : ((l.take i).flatMap (fun x => meantP c b x t)).length ≤ 2 * i := by
      rw [List.length_flatMap]
      have : ∀ (m : List D.Target), (∀ x ∈ m, TargetOK b.Teams.length x) → (m.map (fun x => (meantP c b x t).length)).sum ≤ 2 * m.length := by
        intro m hm
        induction m with
        | nil => simp
        | cons y m ih =>
          have h1 := meantP_len (c := c) (t := t) hb (hm y (List.mem_cons_self ..))
          have h2 := ih (fun x hx => hm x (List.mem_cons_of_mem _ hx))
          simp only [List.map_cons, List.sum_cons, List.length_cons]; omega
      have h3 := this (l.take i) (fun x hx => hl x (List.mem_of_mem_take hx))
      rw [List.length_take] at h3; omega
    have hm2 := meantP_len (c := c) (t := t) hb hx
    refine Ok.p (by omega) (Ok.atn hi (Ok.oe (meant_ok h hn hb hx) (Ok.lec (by omega) ?_)))
    rw [wrap_succ (by omega)]
    have e : (l.take i).flatMap (fun x => meantP c b x t) ++ meantP c b (nth l i) t = (l.take (i + 1)).flatMap (fun x => meantP c b x t) := by
      rw [← take_snoc' hi, List.flatMap_append]; simp
    rw [e]; exact hk
  · dsimp only
    rw [List.take_length]
    obtain ⟨L0, hL0⟩ : ∃ L0, l.flatMap (fun x => meantP c b x t) = L0 := ⟨_, rfl⟩
    have hle : L0.length ≤ 12 := by
      rw [← hL0, List.length_flatMap]
      have : ∀ (m : List D.Target), (∀ x ∈ m, TargetOK b.Teams.length x) → (m.map (fun x => (meantP c b x t).length)).sum ≤ 2 * m.length := by
        intro m hm
        induction m with
        | nil => simp
        | cons y m ih =>
          have h1 := meantP_len (c := c) (t := t) hb (hm y (List.mem_cons_self ..))
          have h2 := ih (fun x hx => hm x (List.mem_cons_of_mem _ hx))
          simp only [List.map_cons, List.sum_cons, List.length_cons]; omega
      have h3 := this l hl
      omega
    rw [hL0]
    refine Ok.n (by omega) (Ok.opt (delP_ok h (by omega)) fun ⟨a0, a1, a2⟩ ⟨g1, g2, g3, g4⟩ => ?_)
    dsimp only at g1 g2 g3 g4 ⊢
    subst g1
    refine Ok.opt (sort_ok (by omega) (by omega)) fun r ⟨s1, s2, s3⟩ => Ok.ck s1 ?_
    refine Ok.opt (compact_ok (by omega) (by omega) (by omega) s2) fun ⟨b0, b1, b2⟩ ⟨k1, k2, k3, k4, k5⟩ => Ok.s ?_
    dsimp only at k1 k2 k3 k4 k5 ⊢
    refine ⟨k1, by omega, by omega, peopleV_is k4 fun z => ?_⟩
    rw [k5, s3, inTo_mem (by omega), g4, List.mem_filter, ← hL0, List.mem_flatMap]
    unfold Means inC
    rw [decide_eq_true_eq]
    constructor
    · rintro ⟨⟨x, hx1, hx2⟩, hz⟩
      exact ⟨hz.1, by omega, x, hx1, (meantP_mem h (hl x hx1) hz).1 hx2⟩
    · rintro ⟨hz1, hz2, x, hx1, hx2⟩
      exact ⟨⟨x, hx1, (meantP_mem h (hl x hx1) ⟨hz1, by omega⟩).2 hx2⟩, hz1, by omega⟩
end Go.Proofs.YtfhcigjkfelnfaaGreat
/-
  People whom targets mean: what the reference computes; lists compared.
-/
set_option maxRecDepth 100000
set_option linter.unusedVariables false
set_option linter.unusedSimpArgs false
namespace Go.Proofs.YtfhcigjkfelnfaaGreat
open Go AM
variable {t p : Int} {n : Nat} {c : D.Config} {b : D.Book}
theorem withI_len {l : List Int} {x : Int} : ∀ i, (withI l x i).1.length ≤ 2 * i
  | 0 => by simp [withI]
  | i + 1 => by
    have := withI_len (l := l) (x := x) i
    simp only [withI, List.length_append]
    have h1 : (if (withI l x i).2 = false ∧ x ≤ nth l i then [x] else []).length ≤ 1 := by split <;> simp
    have h2 : (if nth l i ≠ x then [nth l i] else []).length ≤ 1 := by split <;> simp
    omega
theorem withR {l : List Int} {x : Int} (hl : l.length ≤ 400) : r25_With 1000 l x = some (withV l x) := by
  refine Ok.eq ?_
  unfold r25_With
  refine Ok.run l.length (fun i => ((l, x, (withI l x i).2, (i : Int), ()), (withI l x i).1, ())) rfl (by omega) (fun i hi k hk => ?_) (fun k => ?_)
  · dsimp only
    have hlen := withI_len (l := l) (x := x) i
    rw [withI] at hk
    refine Ok.p (by omega) (Ok.j (Ok.j ?_))
    have fin : ∀ (d : Bool) (o : List Int), o.length ≤ 2000 → d = ((withI l x i).2 || decide (x ≤ nth l i)) → o = (withI l x i).1 ++ (if (withI l x i).2 = false ∧ x ≤ nth l i then [x] else []) →
        Ok (atc l (i : Int) fun a17 => AM.cnd (decide (a17 ≠ x)) (atc l (i : Int) fun a18 => AM.lec (o.length + [a18].length) 34359738368 (k ((l, x, d, IntKind.wrap .i64 ((i : Int) + 1), ()), o ++ [a18], ()))) (k ((l, x, d, IntKind.wrap .i64 ((i : Int) + 1), ()), o, ()))) (· = withV l x) := fun d o ho hd he => by
      rw [wrap_succ (by omega)]
      rw [hd, he]
      refine Ok.atn hi (Ok.ite (fun h => Ok.atn hi (Ok.lec (by rw [← he]; simp; omega) ?_)) (fun h => ?_))
      · rw [if_pos h] at hk; exact hk
      · rw [if_neg h, List.append_nil] at hk; exact hk
    refine Ok.cnd (fun hd => ?_) (fun hd => Ok.atn hi (Ok.ite (fun hx => Ok.lec (by simp; omega) ?_) (fun hx => ?_)))
    · exact fin (withI l x i).2 (withI l x i).1 (by omega) (by rw [hd]; rfl) (by rw [hd]; simp)
    · exact fin true ((withI l x i).1 ++ [x]) (by simp; omega) (by rw [hd, decide_eq_true hx]; rfl) (by rw [if_pos ⟨hd, hx⟩])
    · exact fin (withI l x i).2 (withI l x i).1 (by omega) (by rw [hd, decide_eq_false hx]; rfl) (by rw [if_neg (fun h => hx h.2), List.append_nil])
  · dsimp only
    have hlen := withI_len (l := l) (x := x) l.length
    refine Ok.n (by omega) (Ok.j (Ok.ncnd (fun hd => Ok.lec (by simp; omega) (Ok.s ?_)) (fun hd => Ok.s ?_)))
    · unfold withV; rw [if_neg (by rw [hd]; simp)]
    · unfold withV; rw [if_pos hd]
theorem q25In {fu : Nat} {n lo hi : Int} : r25_In fu n lo hi = some (decide (lo ≤ n ∧ n ≤ hi)) := cnd2
theorem means_snoc {l : List D.Target} {i : Nat} {z : Int} (hi : i < l.length) : Means c b (l.take (i + 1)) t z ↔ Means c b (l.take i) t z ∨ (0 ≤ z ∧ z < 4 ∧ z ∈ meantV c b (nth l i) t) := by
  unfold Means
  rw [← take_snoc' hi]
  simp only [List.mem_append, List.mem_singleton]
  constructor
  · rintro ⟨h1, h2, x, hx | rfl, hz⟩
    · exact .inl ⟨h1, h2, x, hx, hz⟩
    · exact .inr ⟨h1, h2, hz⟩
  · rintro (⟨h1, h2, x, hx, hz⟩ | ⟨h1, h2, hz⟩)
    · exact ⟨h1, h2, x, .inl hx, hz⟩
    · exact ⟨h1, h2, _, .inr rfl, hz⟩
theorem asc4_len {o : List Int} (h : Asc o) (hm : ∀ z ∈ o, 0 ≤ z ∧ z < 4) : o.length ≤ 4 := by
  have e : o = ([0, 1, 2, 3] : List Int).filter fun z => o.contains z := asc_ext h (List.Pairwise.filter _ asc4) fun z => by
    simp only [List.mem_filter, List.contains_iff_mem, List.mem_cons, List.not_mem_nil, or_false]
    exact ⟨fun hz => ⟨by have := hm z hz; omega, hz⟩, fun hz => hz.2⟩
  rw [e]
  exact List.length_filter_le _ _
theorem peopleR_ok {l : List D.Target} (h : CfgOK n c) (hn : n ≤ 48) (hb : BookOK b) (hl : ∀ x ∈ l, TargetOK b.Teams.length x) (hlen : l.length ≤ 400) : r25_People 1000 c b l t = some (peopleV c b l t) := by
  have hpl := h.plen; have hsl := h.slen; have htl := hb.tlen
  refine Ok.eq ?_
  unfold r25_People
  refine Ok.run l.length (fun i => ((l, t, peopleV c b (l.take i) t, (i : Int), ()), c, b, ())) (by rw [List.take_zero]; rfl) (by omega) (fun i hi k hk => ?_) (fun k => ?_)
  · dsimp only
    have hx := hl _ (nth_mem hi)
    obtain ⟨x, hxx⟩ : ∃ x, nth l i = x := ⟨_, rfl⟩
    have hpe := peopleV_asc (c := c) (b := b) (l := l.take i) (t := t)
    have hple := peopleV_len (c := c) (b := b) (l := l.take i) (t := t)
    have fin : ∀ o : List Int, Asc o → (∀ z, z ∈ o ↔ Means c b (l.take i) t z ∨ (0 ≤ z ∧ z < 4 ∧ z ∈ meantV c b x t)) → Ok (k ((l, t, o, IntKind.wrap .i64 ((i : Int) + 1), ()), c, b, ())) (· = peopleV c b l t) := fun o ho hm => by
      rw [wrap_succ (by omega), peopleV_is ho (fun z => by rw [hm, means_snoc hi, hxx])]
      exact hk
    have one : ∀ v, 0 ≤ v ∧ v < 4 → (∀ z, 0 ≤ z ∧ z < 4 → (z ∈ meantV c b x t ↔ z = v)) → Ok (k ((l, t, withV (peopleV c b (l.take i) t) v, IntKind.wrap .i64 ((i : Int) + 1), ()), c, b, ())) (· = peopleV c b l t) := fun v hv hm =>
      fin _ (withV_is hpe).1 fun z => by
        rw [(withV_is hpe).2, peopleV_mem]
        constructor
        · rintro (hz | rfl)
          · exact .inl hz
          · exact .inr ⟨hv.1, hv.2, (hm _ hv).2 rfl⟩
        · rintro (hz | ⟨h1, h2, hz⟩)
          · exact .inl hz
          · exact .inr ((hm z ⟨h1, h2⟩).1 hz)
    have none_ : (∀ z, 0 ≤ z ∧ z < 4 → ¬ z ∈ meantV c b x t) → Ok (k ((l, t, peopleV c b (l.take i) t, IntKind.wrap .i64 ((i : Int) + 1), ()), c, b, ())) (· = peopleV c b l t) := fun hm =>
      fin _ hpe fun z => by
        rw [peopleV_mem]
        exact ⟨.inl, fun h => h.elim id fun ⟨h1, h2, hz⟩ => absurd hz (hm z ⟨h1, h2⟩)⟩
    rw [hxx] at hx
    rw [hpl, hsl]
    have h1 := hx.lo; have h2 := hx.person; have h3 := hx.sched; have h4 := hx.team
    refine Ok.p (by omega) (Ok.j (Ok.atn hi ?_))
    rw [hxx]
    rcases hx.kind with hkd | hkd | hkd
    · have := h2 hkd
      refine Ok.p hkd (Ok.oe q25In (Ok.p (by rw [wrap_id (by omega)]; omega) (Ok.oe (withR (by omega)) ?_)))
      exact one _ ⟨h1, by omega⟩ fun z hz => by unfold meantV; rw [if_pos hkd]; simp
    · have := h3 hkd
      refine Ok.n (by omega) (Ok.p hkd (Ok.oe q25In (Ok.p (by rw [wrap_id (by omega)]; omega) (Ok.oe (whoR_is h hn) ?_))))
      have hw := whoV_in h (i := x.Index) (t := t)
      refine Ok.ite (fun hge => Ok.oe (withR (by omega)) ?_) (fun hlt => ?_)
      · exact one _ ⟨hge, hw.2⟩ fun z hz => by unfold meantV; rw [if_neg (by omega), if_pos hkd, if_neg (by omega)]; simp
      · exact none_ fun z hz => by unfold meantV; rw [if_neg (by omega), if_pos hkd, if_pos (by omega)]; simp
    · have := h4 hkd
      refine Ok.n (by omega) (Ok.n (by omega) (Ok.p hkd (Ok.oe q25In (Ok.p (by rw [wrap_id (by omega)]; omega) ?_))))
      obtain ⟨tm, htm⟩ : ∃ tm, nth b.Teams x.Index.toNat = tm := ⟨_, rfl⟩
      have hteam := hb.team _ (nth_mem (l := b.Teams) (i := x.Index.toNat) (by omega))
      rw [htm] at hteam
      have hmv : meantV c b x t = tm.Members := by unfold meantV; rw [if_neg (by omega), if_neg (by omega), if_pos ⟨hkd, h1, h4 hkd⟩, htm]
      have hml := hteam.len
      refine Ok.loop (fun q y => ∃ (j : Nat) (o : List Int), y = ((l, t, o, (i : Int), (j : Int), ()), c, b, x, ()) ∧ j ≤ tm.Members.length ∧ Asc o ∧ (∀ z, z ∈ o ↔ Means c b (l.take i) t z ∨ (0 ≤ z ∧ z < 4 ∧ z ∈ tm.Members.take j)) ∧ q = tm.Members.length - j) (m := tm.Members.length) (by omega)
        ⟨0, _, rfl, by omega, hpe, fun z => by rw [peopleV_mem]; simp, by omega⟩ ?_
      rintro q y ⟨j, o, rfl, a1, a2, a4, rfl⟩ K hK
      have a3 := asc4_len a2 (fun z hz => by
        rcases (a4 z).1 hz with g | g
        · exact ⟨g.1, g.2.1⟩
        · exact ⟨g.1, g.2.1⟩)
      dsimp only
      refine Ok.at h1 (by omega) ?_
      rw [htm]
      refine Ok.ite (fun hj => ?_) (fun hj => ?_)
      · have hmem := hteam.mem _ (nth_mem (l := tm.Members) (i := j) (by omega))
        refine Ok.j (Ok.at h1 (by omega) ?_)
        rw [htm]
        refine Ok.atn (by omega) ?_
        rw [hpl]
        refine Ok.oe q25In (Ok.p (by rw [wrap_id (by omega)]; omega) (Ok.at h1 (by omega) ?_))
        rw [htm]
        refine Ok.atn (by omega) (Ok.oe (withR (by omega)) ?_)
        dsimp only
        rw [wrap_succ (by omega)]
        refine hK _ _ (by omega) ⟨j + 1, _, rfl, by omega, (withV_is a2).1, fun z => ?_, rfl⟩
        rw [(withV_is a2).2, a4, mem_take_succ (by omega)]
        constructor
        · rintro ((hz | ⟨z1, z2, z3⟩) | rfl)
          · exact .inl hz
          · exact .inr ⟨z1, z2, .inl z3⟩
          · exact .inr ⟨hmem.1, hmem.2, .inr rfl⟩
        · rintro (hz | ⟨z1, z2, z3 | z3⟩)
          · exact .inl (.inl hz)
          · exact .inl (.inr ⟨z1, z2, z3⟩)
          · exact .inr z3
      · have ej : j = tm.Members.length := by omega
        rw [ej, List.take_length] at a4
        exact fin o a2 fun z => by rw [a4, hmv]
  · dsimp only
    refine Ok.n (by omega) (Ok.s ?_)
    rw [List.take_length]
theorem has25_is {l : List Int} {x : Int} (hl : l.length ≤ 900) : r25_Has 1000 l x = some (l.contains x) := by
  refine Ok.eq ?_
  unfold r25_Has
  refine Ok.scan l.length (fun i => ((l, x, (i : Int), ()), ())) (fun i => decide (nth l i = x)) rfl (by omega) (fun i hi hq _ k => ?_) (fun i hi hq k hk => ?_) (fun hq k => ?_)
  · have hq := of_decide_eq_true hq
    refine Ok.p (by omega) (Ok.atn hi (Ok.p hq (Ok.s ?_)))
    exact (List.contains_iff_mem.2 (hq ▸ nth_mem hi)).symm
  · have hq := of_decide_eq_false hq
    refine Ok.p (by omega) (Ok.atn hi (Ok.n hq ?_))
    rw [wrap_succ (by omega)]; exact hk
  · refine Ok.n (by omega) (Ok.s ?_)
    symm
    rw [Bool.eq_false_iff]
    intro h
    obtain ⟨i, hi, e⟩ := List.getElem_of_mem (List.contains_iff_mem.1 h)
    refine of_decide_eq_false (hq i hi) ?_
    simpa [nth, List.getD_eq_getElem?_getD, List.getElem?_eq_getElem hi] using e
end Go.Proofs.YtfhcigjkfelnfaaGreat
/-
  Pages looked at: what the program's and the reference's checks of pages and answers compute.
-/
set_option maxRecDepth 100000
set_option linter.unusedVariables false
set_option linter.unusedSimpArgs false
namespace Go.Proofs.YtfhcigjkfelnfaaGreat
open Go AM
theorem drop_nth' {α : Type} [Inhabited α] {l : List α} {i : Nat} (h : i < l.length) : l.drop i = nth l i :: l.drop (i + 1) := by
  rw [List.drop_eq_getElem_cons h]
  simp [nth, List.getD_eq_getElem?_getD, List.getElem?_eq_getElem h]
theorem ein {fu : Nat} {x lo hi : Int} : escalate_in fu x lo hi = some (inV x lo hi) := by
  unfold escalate_in inV
  by_cases h1 : lo ≤ x <;> by_cases h2 : x ≤ hi <;> simp [AM.cnd, h1, h2]
theorem aiN {fu : Nat} {x lo hi : Int} : answer_in fu x lo hi = some (inV x lo hi) := by
  unfold answer_in inV
  by_cases h1 : lo ≤ x <;> by_cases h2 : x ≤ hi <;> simp [AM.cnd, h1, h2]
theorem contains_nth {l : List Int} {i : Nat} {x : Int} (hi : i < l.length) (h : decide (x = nth l i) = true) : l.contains x = true := by
  rw [of_decide_eq_true h]; exact List.contains_iff_mem.2 (nth_mem hi)
theorem contains_no {l : List Int} {x : Int} (h : ∀ j, j < l.length → decide (x = nth l j) = false) : l.contains x = false := by
  cases hb : l.contains x with
  | false => rfl
  | true =>
    obtain ⟨j, hj, e⟩ := List.getElem_of_mem (List.contains_iff_mem.1 hb)
    have := of_decide_eq_false (h j hj)
    exact absurd (by simp [nth, List.getD_eq_getElem?_getD, List.getElem?_eq_getElem hj, e]) this
theorem contains_is {l : List Int} {x : Int} (hl : l.length < 900) : slices_Contains_int 1000 l x = some (l.contains x) := by
  refine Ok.eq ?_
  unfold slices_Contains_int slices_Index_int
  refine Ok.opt (P := fun r => decide (0 ≤ r) = l.contains x) ?_ fun r hr => Ok.s hr
  refine Ok.scan l.length (fun i => ((l, x, ((l.length : Nat) : Int), (i : Int), ()), ())) (fun i => decide (x = nth l i)) rfl (by omega) (fun i hi hq _ k => ?_) (fun i hi hq k hk => ?_) (fun hq k => ?_)
  · refine Ok.p (by omega) (Ok.atn hi (Ok.bt hq (Ok.s ?_)))
    rw [contains_nth hi hq]; simp
  · refine Ok.p (by omega) (Ok.atn hi (Ok.bf hq ?_))
    rw [wrap_succ (by omega)]; exact hk
  · refine Ok.n (by omega) (Ok.s ?_)
    rw [contains_no hq]; rfl
theorem contains0_is {l : List Int} {x : Int} (hl : l.length < 900) : slices_Contains_int_0 1000 l x = some (l.contains x) := by
  refine Ok.eq ?_
  unfold slices_Contains_int_0 slices_Index_int_0
  refine Ok.opt (P := fun r => decide (0 ≤ r) = l.contains x) ?_ fun r hr => Ok.sameC (Ok.s hr)
  refine Ok.scan l.length (fun i => ((x, ((l.length : Nat) : Int), (i : Int), ()), l, ())) (fun i => decide (x = nth l i)) rfl (by omega) (fun i hi hq _ k => ?_) (fun i hi hq k hk => ?_) (fun hq k => ?_)
  · refine Ok.p (by omega) (Ok.natn (Ok.lt hi (Ok.get hi (Ok.bt hq (Ok.sameC (Ok.s ?_))))))
    rw [contains_nth hi hq]; simp
  · refine Ok.p (by omega) (Ok.natn (Ok.lt hi (Ok.get hi (Ok.bf hq ?_))))
    rw [wrap_succ (by omega)]; exact hk
  · refine Ok.n (by omega) (Ok.sameC (Ok.s ?_))
    rw [contains_no hq]; rfl
def badS (l : List Int) (i : Nat) : Bool := !(decide (0 ≤ nth l i) && decide (nth l i ≤ 31) && (decide (i = 0) || decide (nth l (i - 1) < nth l i)))
theorem setV_bad {l : List Int} {i : Nat} (hi : i < l.length) (h : badS l i = true) : setV l = false := by
  cases hb : setV l with
  | false => rfl
  | true =>
    have hs := setV_is.1 hb
    have h1 := hs.2 _ (nth_mem hi)
    have h2 : 0 < i → nth l (i - 1) < nth l i := fun h0 => asc_nth hs.1 (by omega) hi
    unfold badS at h
    by_cases h0 : i = 0
    · subst h0; simp at h; omega
    · have := h2 (by omega)
      simp [h0] at h; omega
theorem setV_good {l : List Int} (h : ∀ j, j < l.length → badS l j = false) : setV l = true := by
  have hk : ∀ j, j < l.length → 0 ≤ nth l j ∧ nth l j ≤ 31 ∧ (j = 0 ∨ nth l (j - 1) < nth l j) := fun j hj => by
    have := h j hj
    unfold badS at this
    obtain ⟨a, b, c⟩ : 0 ≤ nth l j ∧ nth l j ≤ 31 ∧ (¬ j = 0 → nth l (j - 1) < nth l j) := by simpa [and_assoc] using this
    exact ⟨a, b, by by_cases e : j = 0; exact .inl e; exact .inr (c e)⟩
  refine setV_is.2 ⟨?_, fun x hx => ?_⟩
  · have := ascTo_take (l := l) (n := l.length) (Nat.le_refl _) fun k h1 h2 => by have := (hk k h2).2.2; omega
    rwa [List.take_length] at this
  · obtain ⟨j, hj, e⟩ := List.getElem_of_mem hx
    have := hk j hj
    rw [show nth l j = x by simp [nth, List.getD_eq_getElem?_getD, List.getElem?_eq_getElem hj, e]] at this
    omega
theorem set_is {l : List Int} (hl : l.length < 900) : escalate_set 1000 l = some (setV l) := by
  refine Ok.eq ?_
  unfold escalate_set
  refine Ok.scan l.length (fun i => ((l, l, ((l.length : Nat) : Int), (i : Int), ()), ())) (badS l) rfl (by omega) (fun i hi hq _ k => ?_) (fun i hi hq k hk => ?_) (fun hq k => ?_)
  · refine Ok.p (by omega) (Ok.j (Ok.atn hi (Ok.oe ein ?_)))
    rw [setV_bad hi hq]
    refine Ok.cnd (fun h1 => ?_) (fun h1 => Ok.s rfl)
    by_cases h0 : 0 < i
    · refine Ok.p (by omega) ?_
      rw [show IntKind.wrap .i64 ((i : Int) - 1) = ((i - 1 : Nat) : Int) by rw [wrap_id (by omega)]; omega]
      refine Ok.atn (by omega) (Ok.p ?_ (Ok.s rfl))
      unfold badS at hq
      unfold inV at h1
      simp only [Bool.and_eq_true, decide_eq_true_eq] at h1
      simp [h1.1, h1.2, show i ≠ 0 by omega] at hq
      omega
    · unfold badS at hq
      unfold inV at h1
      simp only [Bool.and_eq_true, decide_eq_true_eq] at h1
      obtain rfl : i = 0 := by omega
      simp [h1.1, h1.2] at hq
  · refine Ok.p (by omega) (Ok.j (Ok.atn hi (Ok.oe ein ?_)))
    unfold badS at hq
    simp only [Bool.not_eq_false', Bool.and_eq_true, Bool.or_eq_true, decide_eq_true_eq] at hq
    refine Ok.bt (by unfold inV; simp [hq.1.1, hq.1.2]) ?_
    dsimp only
    rw [wrap_succ (by omega)]
    by_cases h0 : 0 < i
    · refine Ok.p (by omega) ?_
      rw [show IntKind.wrap .i64 ((i : Int) - 1) = ((i - 1 : Nat) : Int) by rw [wrap_id (by omega)]; omega]
      exact Ok.atn (by omega) (Ok.n (by omega) hk)
    · exact Ok.n (by omega) hk
  · exact Ok.n (by omega) (Ok.s (setV_good hq).symm)
theorem seen_bad {l : List Int} {i : Nat} (hi : i < l.length) (h : (l.take i).contains (nth l i) = true) : decide l.Nodup = false := by
  refine decide_eq_false fun hn => ?_
  have hm := List.contains_iff_mem.1 h
  have e : l = l.take i ++ (nth l i :: l.drop (i + 1)) := by rw [← drop_nth' hi, List.take_append_drop]
  rw [e] at hn
  exact (List.nodup_append.1 hn).2.2 _ hm _ (List.mem_cons_self ..) rfl
theorem seen_good {l : List Int} (h : ∀ j, j < l.length → (l.take j).contains (nth l j) = false) : l.Nodup := by
  have : ∀ i, i ≤ l.length → (l.take i).Nodup := by
    intro i
    induction i with
    | zero => intro _; simp
    | succ i ih =>
      intro hi
      rw [take_succ_nth (by omega)]
      refine List.nodup_append.2 ⟨ih (by omega), by simp, fun x hx y hy e => ?_⟩
      rw [List.mem_singleton.1 hy] at e
      subst e
      have := h i (by omega)
      rw [List.contains_iff_mem.2 hx] at this
      simp at this
  have := this l.length (Nat.le_refl _)
  rwa [List.take_length] at this
theorem seen_is {l : List Int} (hl : l.length < 900) : escalate_seen 1000 l = some (seenV l) := by
  refine Ok.eq ?_
  unfold escalate_seen seenV
  refine Ok.scan l.length (fun i => ((l, l, ((l.length : Nat) : Int), (i : Int), ()), ())) (fun i => (l.take i).contains (nth l i)) rfl (by omega) (fun i hi hq _ k => ?_) (fun i hi hq k hk => ?_) (fun hq k => ?_)
  · refine Ok.p (by omega) (Ok.atn hi (Ok.natn (Ok.lec (by omega) (Ok.oe (contains_is (by simp; omega)) (Ok.bt hq (Ok.s ?_))))))
    rw [seen_bad hi hq]; rfl
  · refine Ok.p (by omega) (Ok.atn hi (Ok.natn (Ok.lec (by omega) (Ok.oe (contains_is (by simp; omega)) (Ok.bf hq ?_)))))
    rw [wrap_succ (by omega)]; exact hk
  · refine Ok.n (by omega) (Ok.s ?_)
    rw [decide_eq_true (seen_good hq), Bool.true_and]
    exact decide_eq_decide.2 (by omega)
structure PageLen (p : D.Page) : Prop where
  st : p.Starts.length ≤ 300
  pe : ∀ s ∈ p.Starts, s.People.length ≤ 40 ∧ -1000000 ≤ s.K ∧ s.K ≤ 1000000
  de : p.Declined.length ≤ 40
  se : p.Seen.length ≤ 100
  nx : -1000000 ≤ p.Next ∧ p.Next ≤ 1000000
theorem started_is {p : D.Page} (h : PageLen p) : escalate_started 1000 p = some (startsV p) := by
  have hst := h.st
  have hnx := h.nx
  refine Ok.eq ?_
  unfold escalate_started startsV
  refine Ok.loop (fun m x => ∃ (i : Nat) (k t : Int), x = ((t, k, p.Starts, ((p.Starts.length : Nat) : Int), (i : Int), ()), p, ()) ∧ i ≤ p.Starts.length ∧ -1 ≤ k ∧ k ≤ 1000000 ∧ startsF p.Next k t (p.Starts.drop i) = startsF p.Next (-1) p.Start p.Starts ∧ m = p.Starts.length - i) (m := p.Starts.length) (by omega)
    ⟨0, -1, p.Start, rfl, by omega, by omega, by omega, rfl, rfl⟩ ?_
  rintro m x ⟨i, k, t, rfl, h1, h2, h2', h3, rfl⟩ K hK
  dsimp only
  refine Ok.ite (fun hi => ?_) (fun hi => ?_)
  · have hlt : i < p.Starts.length := by omega
    have hs := h.pe _ (nth_mem hlt)
    refine Ok.atn hlt (Ok.j ?_)
    obtain ⟨s, hse⟩ : ∃ s, nth p.Starts i = s := ⟨_, rfl⟩
    rw [drop_nth' hlt, startsF, hse] at h3
    rw [hse] at hs ⊢
    rw [← h3]
    have next : (decide (t ≤ s.At) && (decide (s.K = -1) || decide (0 ≤ s.K) && decide (k < s.K) && decide (s.K < p.Next)) && setV s.People) = true →
        Ok (K ((s.At, max k s.K, p.Starts, ((p.Starts.length : Nat) : Int), IntKind.wrap .i64 ((i : Int) + 1), ()), p, ())) (· = (decide (t ≤ s.At) && (decide (s.K = -1) || decide (0 ≤ s.K) && decide (k < s.K) && decide (s.K < p.Next)) && setV s.People && startsF p.Next (max k s.K) s.At (p.Starts.drop (i + 1)) && decide (p.Starts.length ≤ 200))) := fun e => by
      rw [wrap_succ (by omega), h3]
      rw [e, Bool.true_and] at h3
      exact hK _ _ (by omega) ⟨i + 1, max k s.K, s.At, rfl, by omega, by omega, by omega, h3, rfl⟩
    refine Ok.ite (fun g1 => Ok.s (by rw [decide_eq_false (show ¬ t ≤ s.At by omega)]; simp)) fun g1 => ?_
    refine Ok.oe (set_is (by omega)) (Ok.cnd (fun g2 => ?_) (fun g2 => Ok.s (by rw [g2]; simp)))
    refine Ok.ite (fun g3 => ?_) (fun g3 => ?_)
    · rw [wrap_id (x := k + 1) (by omega), wrap_id (x := p.Next - 1) (by omega)]
      refine Ok.oe ein (Ok.cnd (fun g4 => ?_) (fun g4 => ?_))
      · unfold inV at g4
        simp only [Bool.and_eq_true, decide_eq_true_eq] at g4
        refine next ?_
        rw [g2]; simp; omega
      · refine Ok.s ?_
        have : (decide (s.K = -1) || decide (0 ≤ s.K) && decide (k < s.K) && decide (s.K < p.Next)) = false := by
          unfold inV at g4
          simp only [Bool.and_eq_false_iff, decide_eq_false_iff_not] at g4
          rw [decide_eq_false g3, Bool.false_or]
          by_cases q1 : 0 ≤ s.K <;> by_cases q2 : k < s.K <;> by_cases q3 : s.K < p.Next <;> simp [q1, q2, q3] <;> omega
        rw [this]; simp
    · refine next ?_
      rw [g2]; simp; omega
  · have e : i = p.Starts.length := by omega
    refine Ok.s ?_
    subst e
    rw [List.drop_length, startsF] at h3
    rw [← h3, Bool.true_and]
    exact decide_eq_decide.2 (by omega)
theorem times_is {p : D.Page} : escalate_times 1000 p = some (inV p.Last p.Start farV && inV p.Due 0 farV && inV p.Until 0 farV && inV p.Snoozes 0 4 && inV p.Hands 0 4) := by
  refine Ok.eq ?_
  unfold escalate_times
  refine Ok.oe ein (Ok.cnd (fun h1 => Ok.oe ein (Ok.cnd (fun h2 => Ok.oe ein (Ok.cnd (fun h3 => Ok.oe ein (Ok.cnd (fun h4 => Ok.oe ein (Ok.cnd (fun h5 => Ok.s ?_) (fun h5 => Ok.s ?_))) (fun h4 => Ok.s ?_))) (fun h3 => Ok.s ?_))) (fun h2 => Ok.s ?_))) (fun h1 => Ok.s ?_))
  all_goals simp_all [farV]
theorem count_is {n : Nat} {q : D.Policy} (h : PolOK n q) : policy_Count 1000 q = some (countV q) := by
  have h1 := h.rep
  have h2 := h.len
  refine Ok.eq ?_
  unfold policy_Count
  refine Ok.j (Ok.oe pIn (Ok.p (by omega) (Ok.n (by omega) (Ok.s ?_))))
  rw [(countV_is h).1, wrap_id (x := q.Repeat + 1) (by omega), wrap_id]
  have h3 : q.Repeat = 0 ∨ q.Repeat = 1 ∨ q.Repeat = 2 := by omega
  rcases h3 with h3 | h3 | h3 <;> rw [h3] <;> omega
theorem waits_true {n : Nat} {q : D.Policy} (h : PolOK n q) : waitsV q = true := by
  unfold waitsV
  rw [List.all_eq_true]
  intro s hs
  have := (h.step s hs).wait
  simp; omega
theorem waitsC_is {n : Nat} {q : D.Policy} (h : PolOK n q) : slices_ContainsFunc_PolicyStep_1Fescalate_Check_1 1000 q.Steps = some false := by
  have h2 := h.len
  refine Ok.eq ?_
  unfold slices_ContainsFunc_PolicyStep_1Fescalate_Check_1 slices_IndexFunc_PolicyStep_1Fescalate_Check_1
  refine Ok.opt (P := fun r => r = -1) ?_ fun r hr => Ok.s (by rw [hr]; rfl)
  refine Ok.run q.Steps.length (fun i => ((q.Steps, ((q.Steps.length : Nat) : Int), (i : Int), ()), ())) rfl (by omega) (fun i hi k hk => ?_) (fun k => ?_)
  · have hw := (h.step _ (nth_mem hi)).wait
    refine Ok.p (by omega) (Ok.atn hi (Ok.oe (v := false) ?_ (Ok.f ?_)))
    · unfold escalate_Check_1
      rw [ein, optc_s]
      unfold inV; simp; omega
    · rw [wrap_succ (by omega)]; exact hk
  · exact Ok.n (by omega) (Ok.s rfl)
theorem check_is {b : D.Book} {p : D.Page} (hb : BookOK b) (h : PageLen p) : escalate_Check 1000 b p = some (checkV b p) := by
  have hpl := hb.plen
  refine Ok.eq ?_
  unfold escalate_Check
  refine Ok.j (Ok.oe ein (Ok.cnd (fun h1 => ?_) (fun h1 => Ok.s (by simp [checkV, h1]))))
  rw [wrap_id (x := ((b.Policies.length : Nat) : Int) - 1) (by omega)]
  refine Ok.oe ein (Ok.cnd (fun h2 => ?_) (fun h2 => Ok.s (by simp [checkV, h2])))
  refine Ok.oe ein (Ok.cnd (fun h3 => ?_) (fun h3 => Ok.s (by simp [checkV, h3])))
  have h2' := h2
  unfold inV at h2'
  simp only [Bool.and_eq_true, decide_eq_true_eq] at h2'
  refine Ok.at h2'.1 (by omega) (Ok.j ?_)
  have hq : PolOK b.Teams.length (polOf b p) := hb.pol _ (nth_mem (by omega))
  have hw := waits_true hq
  show Ok (optc (slices_ContainsFunc_PolicyStep_1Fescalate_Check_1 1000 (polOf b p).Steps) _) _
  refine Ok.oe (waitsC_is hq) (Ok.f (Ok.oe (count_is hq) (Ok.oe ein ?_)))
  refine Ok.cnd (fun h4 => ?_) (fun h4 => Ok.s (by have h4 : inV p.Next 0 (countV (polOf b p)) = false := h4; simp [checkV, h4]))
  have h4 : inV p.Next 0 (countV (polOf b p)) = true := h4
  refine Ok.oe ein (Ok.cnd (fun h5 => ?_) (fun h5 => Ok.s (by simp [checkV, h5])))
  refine Ok.oe ein (Ok.cnd (fun h6 => ?_) (fun h6 => Ok.s (by simp [checkV, h6])))
  refine Ok.oe times_is (Ok.cnd (fun h7 => ?_) (fun h7 => Ok.s ?_))
  · refine Ok.oe (started_is h) (Ok.cnd (fun h8 => ?_) (fun h8 => Ok.s (by simp [checkV, h8])))
    have hde := h.de; have hse := h.se
    refine Ok.oe (set_is (by omega)) (Ok.cnd (fun h9 => ?_) (fun h9 => Ok.s (by simp [checkV, h9])))
    refine Ok.oe (seen_is (by omega)) ?_
    simp only [Bool.and_eq_true] at h7
    exact Ok.cnd (fun h10 => Ok.s (by simp [checkV, h1, h2, h3, hw, h4, h5, h6, h7, h8, h9, h10])) (fun h10 => Ok.s (by simp [checkV, h10]))
  · symm
    unfold checkV
    rw [Bool.eq_false_iff]
    intro hc
    rw [Bool.eq_false_iff] at h7
    apply h7
    simp only [Bool.and_eq_true] at hc ⊢
    obtain ⟨⟨⟨⟨⟨⟨⟨⟨hc, a1⟩, a2⟩, a3⟩, a4⟩, a5⟩, _⟩, _⟩, _⟩ := hc
    exact ⟨⟨⟨⟨a1, a2⟩, a3⟩, a4⟩, a5⟩
theorem valid_is {a : D.Answer} : answer_Valid 1000 a = some (validV a) := by
  refine Ok.eq ?_
  unfold answer_Valid
  refine Ok.j ?_
  refine Ok.ite (fun k3 => ?_) (fun k3 => ?_)
  · refine Ok.oe aiN (Ok.cnd (fun h1 => Ok.oe aiN (Ok.cnd (fun h2 => Ok.oe aiN (Ok.cnd (fun h3 => Ok.oe aiN (Ok.cnd (fun h4 => Ok.oe aiN (Ok.cnd (fun h5 => Ok.oe aiN (Ok.cnd (fun h6 => Ok.s ?_) (fun h6 => Ok.s ?_))) (fun h5 => Ok.s ?_))) (fun h4 => Ok.s ?_))) (fun h3 => Ok.s ?_))) (fun h2 => Ok.s ?_))) (fun h1 => Ok.s ?_))
    all_goals (unfold validV; rw [if_pos k3]; simp_all)
  · refine Ok.ite (fun k4 => ?_) (fun k4 => ?_)
    · refine Ok.oe aiN (Ok.cnd (fun h1 => Ok.oe aiN (Ok.cnd (fun h2 => Ok.oe aiN (Ok.cnd (fun h3 => Ok.oe aiN (Ok.cnd (fun h4 => Ok.oe aiN (Ok.cnd (fun h5 => Ok.oe aiN (Ok.cnd (fun h6 => Ok.s ?_) (fun h6 => Ok.s ?_))) (fun h5 => Ok.s ?_))) (fun h4 => Ok.s ?_))) (fun h3 => Ok.s ?_))) (fun h2 => Ok.s ?_))) (fun h1 => Ok.s ?_))
      all_goals (unfold validV; rw [if_neg k3, if_pos k4]; simp_all)
    · have e0 : inV a.Arg 0 0 = decide (a.Arg = 0) := by unfold inV; by_cases h : a.Arg = 0 <;> simp [h]; omega
      refine Ok.oe aiN (Ok.cnd (fun h1 => Ok.oe aiN (Ok.cnd (fun h2 => Ok.oe aiN (Ok.cnd (fun h3 => Ok.oe aiN (Ok.cnd (fun h4 => Ok.oe aiN (Ok.cnd (fun h5 => Ok.oe aiN (Ok.cnd (fun h6 => Ok.s ?_) (fun h6 => Ok.s ?_))) (fun h5 => Ok.s ?_))) (fun h4 => Ok.s ?_))) (fun h3 => Ok.s ?_))) (fun h2 => Ok.s ?_))) (fun h1 => Ok.s ?_))
      all_goals (unfold validV; rw [if_neg k3, if_neg k4, ← e0]; simp_all)
end Go.Proofs.YtfhcigjkfelnfaaGreat
/-
  What runs and answers keep of pages, in plain Lean: what the laws about pages ask for.
-/
set_option maxRecDepth 100000
set_option linter.unusedSimpArgs false
set_option linter.unusedVariables false
namespace Go.Proofs.YtfhcigjkfelnfaaGreat
open Go AM
section
variable {Q : Int → D.Start → Prop} {M now : Int} {b : D.Book} {p q : D.Page} {c : D.Config}
theorem runN_ind {R : D.Page → Prop} (hb : BookOK b) (hQ : StepQ Q M c b) (hs : ∀ q, PageInv Q M b q → waitB q now = true → R q → R (stepQ c b q)) : ∀ (n : Nat) {p : D.Page}, PageInv Q M b p → R p → R (runN c b now n p).1
  | 0, p, h, hr => hr
  | n + 1, p, h, hr => by
    rw [runN]
    split
    · rename_i hw
      have hd := waitB_due hw
      rw [h.stepVis hb hd.1, if_neg (by simp)]
      exact runN_ind hb hQ hs n (h.stepQ_inv hb hd.1 (hQ p h)) (hs p h hw hr)
    · exact hr
theorem runV_ind {R : D.Page → Prop} (hb : BookOK b) (hQ : StepQ Q M c b) (hs : ∀ q, PageInv Q M b q → waitB q now = true → R q → R (stepQ c b q)) (h : PageInv Q M b p) (hr : R p) : R (runV c b p now).1 := by
  rw [runV_is (h.check hb)]
  exact runN_ind hb hQ hs 100 h hr
structure Kept (p q : D.Page) : Prop where
  id : q.ID = p.ID
  pol : q.Policy = p.Policy
  start : q.Start = p.Start
  by_ : q.By = p.By
  until_ : q.Until = p.Until
  snoozes : q.Snoozes = p.Snoozes
  hands : q.Hands = p.Hands
  seen : q.Seen = p.Seen
theorem Kept.refl (p : D.Page) : Kept p p := ⟨rfl, rfl, rfl, rfl, rfl, rfl, rfl, rfl⟩
theorem Kept.step (h : Kept p q) : Kept p (stepQ c b q) := by
  obtain ⟨h1, h2, h3, h4, h5, h6, h7, h8⟩ := h
  unfold stepQ
  split
  · exact ⟨h1, h2, h3, h4, h5, h6, h7, h8⟩
  · split <;> exact ⟨h1, h2, h3, h4, h5, h6, h7, h8⟩
theorem runV_kept (hb : BookOK b) (hQ : StepQ Q M c b) (h : PageInv Q M b p) : Kept p (runV c b p now).1 :=
  runV_ind hb hQ (fun q _ _ hr => hr.step) h (Kept.refl p)
theorem step_last (hw : waitB q now = true) (h : q.Last ≤ now) : (stepQ c b q).Last ≤ now := by
  have hd := waitB_due hw
  have hs := due_state hd.1
  have h2 := hd.2
  unfold dueV at h2
  unfold stepQ
  split
  · rename_i e; rw [if_neg (by omega), if_pos e] at h2; dsimp only at h2 ⊢; omega
  · rename_i e; rw [if_pos (by omega)] at h2
    split <;> dsimp only at h2 ⊢ <;> omega
theorem runV_last (hb : BookOK b) (hQ : StepQ Q M c b) (h : PageInv Q M b p) (hl : p.Last ≤ now) : (runV c b p now).1.Last ≤ now :=
  runV_ind (R := fun q => q.Last ≤ now) hb hQ (fun q _ hw hr => step_last hw hr) h hl
theorem runV_idle (h : checkV b p = true) (hw : waitB p now = false) : runV c b p now = (p, 0) := by
  rw [runV_is h, show (100 : Nat) = 99 + 1 from rfl, runN, if_neg (by simp [hw])]
theorem step_len : q.Starts.length ≤ (stepQ c b q).Starts.length := by
  unfold stepQ
  split
  · exact Nat.le_refl _
  · split
    · exact Nat.le_refl _
    · simp
theorem runV_len (hb : BookOK b) (hQ : StepQ Q M c b) (h : PageInv Q M b p) : p.Starts.length ≤ (runV c b p now).1.Starts.length :=
  runV_ind (R := fun q => p.Starts.length ≤ q.Starts.length) hb hQ (fun q _ _ hr => Nat.le_trans hr step_len) h (Nat.le_refl _)
theorem dueV_fst0 (h : p.State = 0) : dueV p = (p.Due, true) := by unfold dueV; rw [if_pos h]
theorem dueV_fst2 (h : p.State = 2) : dueV p = (p.Until, true) := by unfold dueV; rw [if_neg (by omega), if_pos h]
theorem dueV_not (h0 : p.State ≠ 0) (h2 : p.State ≠ 2) : dueV p = (0, false) := by unfold dueV; rw [if_neg h0, if_neg h2]
theorem waitB_not (h0 : p.State ≠ 0) (h2 : p.State ≠ 2) : waitB p now = false := by unfold waitB; rw [dueV_not h0 h2]; rfl
theorem waitB_0 (h0 : p.State = 0) : waitB p now = decide (p.Due ≤ now) := by unfold waitB; rw [dueV_fst0 h0]; rfl
theorem answerV_new {a : D.Answer} (hc : checkV b p = true) (hv : validV a = true) (hp : a.Page = p.ID) (hs : p.Seen.contains a.ID = false) : answerV b p a = if refusedV p a ≠ 0 then (page0, refusedV p a) else (answerQ p a, 0) := by
  unfold answerV
  rw [hc, hv, hs, if_neg (by simp), if_neg (by simp [hp]), if_neg (by simp)]
theorem answerV_old {a : D.Answer} (hc : checkV b p = true) (hv : validV a = true) (hp : a.Page = p.ID) (hs : p.Seen.contains a.ID = true) : answerV b p a = (p, 0) := by
  unfold answerV
  rw [hc, hv, hs, if_neg (by simp), if_neg (by simp [hp]), if_pos rfl]
theorem answerQ_id {a : D.Answer} : (answerQ p a).ID = p.ID ∧ (answerQ p a).Policy = p.Policy ∧ (answerQ p a).Start = p.Start ∧ (answerQ p a).Next = p.Next := by
  unfold answerQ; repeat' split
  all_goals exact ⟨rfl, rfl, rfl, rfl⟩
theorem answerQ_last {a : D.Answer} (h : p.Last ≤ a.At) : (answerQ p a).Last ≤ a.At := by
  unfold answerQ; repeat' split
  all_goals dsimp only
  all_goals omega
theorem contains_lt {l : List Int} {x : Int} (h : ∀ y ∈ l, y ≠ x) : l.contains x = false := by
  cases hb : l.contains x with
  | false => rfl
  | true => exact absurd rfl (h _ (List.contains_iff_mem.1 hb))
def downP (p : D.Page) (t : Int) (i : Nat) : D.Page :=
  { p with Seen := p.Seen ++ (List.range i).map (fun (j : Nat) => 100 + (j : Int)), Last := if i = 0 then p.Last else t, Declined := (calledV p).take i, Due := if 0 < i ∧ i = (calledV p).length then t else p.Due }
theorem downP_called {t : Int} {i : Nat} : calledV (downP p t i) = calledV p := rfl
theorem plus_last {l : List Int} {x : Int} (h : ∀ y ∈ l, y < x) : plusV l x = l ++ [x] := by
  unfold plusV
  rw [List.filter_eq_self.2 (fun y hy => by simpa using h y hy), List.filter_eq_nil_iff.2 (fun y hy => by have := h y hy; simp; omega)]
theorem asc_take_lt {l : List Int} (h : Asc l) {i : Nat} (hi : i < l.length) : ∀ y ∈ l.take i, y < nth l i := by
  intro y hy
  obtain ⟨k, hk, rfl⟩ := List.getElem_of_mem hy
  rw [List.length_take] at hk
  have := List.pairwise_iff_getElem.1 h k i (by omega) hi (by omega)
  simpa [nth, List.getD_eq_getElem?_getD, List.getElem?_eq_getElem hi] using this
theorem downP_next {t : Int} {i : Nat} (hs : p.State = 0) (hc : Asc (calledV p)) (hi : i < (calledV p).length) : answerQ (downP p t i) (D.Answer.mk (100 + (i : Int)) p.ID (nth (calledV p) i) 2 0 t) = downP p t (i + 1) := by
  have hmem : (calledV p).contains (nth (calledV p) i) = true := List.contains_iff_mem.2 (nth_mem hi)
  have htake : (calledV p).take (i + 1) = (calledV p).take i ++ [nth (calledV p) i] := by
    rw [List.take_succ_eq_append_getElem hi]
    simp [nth, List.getD_eq_getElem?_getD, List.getElem?_eq_getElem hi]
  have hd : declQ (downP p t i) (D.Answer.mk (100 + (i : Int)) p.ID (nth (calledV p) i) 2 0 t) = (calledV p).take (i + 1) := by
    unfold declQ
    rw [downP_called, if_pos hmem, htake]
    exact plus_last (asc_take_lt hc hi)
  have hall : allDown (downP p t i) (D.Answer.mk (100 + (i : Int)) p.ID (nth (calledV p) i) 2 0 t) = decide (i + 1 = (calledV p).length) := by
    unfold allDown
    rw [downP_called, hd, decide_eq_true (show calledV p ≠ [] from fun e => by rw [e] at hi; simp at hi), Bool.true_and]
    by_cases he : i + 1 = (calledV p).length
    · rw [decide_eq_true he, he, List.take_length]
      exact List.all_eq_true.2 fun x hx => List.contains_iff_mem.2 hx
    · rw [decide_eq_false he]
      refine List.all_eq_false.2 ⟨nth (calledV p) (i + 1), nth_mem (by omega), ?_⟩
      intro hx
      have hx := List.contains_iff_mem.1 hx
      have := asc_take_lt hc (i := i + 1) (by omega) _ hx
      omega
  unfold answerQ
  rw [if_neg (by simp), if_pos rfl, hd, hall]
  unfold downP
  simp only [List.range_succ, List.map_append, List.map_cons, List.map_nil, List.append_assoc, hs]
  congr 1
  by_cases he : i + 1 = (calledV p).length
  · rw [if_pos ⟨by simp [he], trivial⟩, if_pos ⟨by omega, he⟩]
  · rw [if_neg (by simp [he]), if_neg (by omega), if_neg (by omega)]
end
def kN (l : List D.Start) (i : Nat) : Int := (((l.take i).filter fun s => decide (0 ≤ s.K)).length : Int)
def tN (st : Int) (l : List D.Start) (i : Nat) : Int := if i = 0 then st else (nth l (i - 1)).At
theorem nth_app_l {α : Type} [Inhabited α] {l m : List α} {i : Nat} (h : i < l.length) : nth (l ++ m) i = nth l i := by
  simp [nth, List.getD_eq_getElem?_getD, List.getElem?_append_left h]
theorem nth_app_r {α : Type} [Inhabited α] {l : List α} {x : α} : nth (l ++ [x]) l.length = x := by
  simp [nth, List.getD_eq_getElem?_getD]
theorem kN_app {l m : List D.Start} {i : Nat} (h : i ≤ l.length) : kN (l ++ m) i = kN l i := by
  unfold kN; rw [List.take_append_of_le_length h]
theorem kN_snoc {l : List D.Start} {x : D.Start} : kN (l ++ [x]) (l.length + 1) = kN l l.length + (if 0 ≤ x.K then 1 else 0) := by
  unfold kN
  rw [List.take_of_length_le (by simp), List.take_of_length_le (Nat.le_refl _), List.filter_append, List.length_append]
  by_cases h : 0 ≤ x.K
  · simp [h]
  · simp [h]
theorem tN_app {st : Int} {l m : List D.Start} {i : Nat} (h : i ≤ l.length) : tN st (l ++ m) i = tN st l i := by
  unfold tN
  split
  · rfl
  · rw [nth_app_l (by omega)]
theorem tN_succ {st : Int} {l : List D.Start} {i : Nat} : tN st l (i + 1) = (nth l i).At := by unfold tN; rw [if_neg (by omega)]; rfl
theorem Goes.scan {Q : D.Start → Prop} {st k t h : Int} {l : List D.Start} (g : Goes Q st l k t h) : kN l l.length = k ∧ tN st l l.length = t ∧
    ∀ i, i < l.length → tN st l i ≤ (nth l i).At ∧ setV (nth l i).People = true ∧ ((nth l i).K = -1 ∧ 0 < i ∨ (nth l i).K = kN l i ∧ 0 ≤ (nth l i).K ∧ Q (nth l i)) ∧ (i = 0 → (nth l i).At = st) := by
  induction g with
  | nil => exact ⟨rfl, rfl, fun i hi => by simp at hi⟩
  | @step l k t h a P g h1 h2 h3 h4 ih =>
    obtain ⟨i1, i2, i3⟩ := ih
    have hp := g.pos
    refine ⟨by rw [List.length_append, List.length_singleton, kN_snoc, i1, if_pos (by dsimp only; omega)], by rw [List.length_append, List.length_singleton, tN_succ, nth_app_r], fun i hi => ?_⟩
    by_cases e : i = l.length
    · subst e
      rw [nth_app_r, tN_app (Nat.le_refl _), kN_app (Nat.le_refl _), i1, i2]
      exact ⟨h1, h3, .inr ⟨rfl, hp.1, h4⟩, fun e => h2 (List.length_eq_zero_iff.1 e)⟩
    · have hi' : i < l.length := by rw [List.length_append, List.length_singleton] at hi; omega
      rw [nth_app_l hi', tN_app (by omega), kN_app (by omega)]
      exact i3 i hi'
  | @hand l k t h a x g h1 h2 h3 h4 ih =>
    obtain ⟨i1, i2, i3⟩ := ih
    have hne : l.length ≠ 0 := fun e => h2 (List.length_eq_zero_iff.1 e)
    refine ⟨by rw [List.length_append, List.length_singleton, kN_snoc, i1, if_neg (by simp)]; simp, by rw [List.length_append, List.length_singleton, tN_succ, nth_app_r], fun i hi => ?_⟩
    by_cases e : i = l.length
    · subst e
      rw [nth_app_r, tN_app (Nat.le_refl _), kN_app (Nat.le_refl _), i2]
      exact ⟨h1, setV_one h3 h4, .inl ⟨rfl, by omega⟩, fun e => absurd e hne⟩
    · have hi' : i < l.length := by rw [List.length_append, List.length_singleton] at hi; omega
      rw [nth_app_l hi', tN_app (by omega), kN_app (by omega)]
      exact i3 i hi'
def QP (c : D.Config) (b : D.Book) : Int → D.Start → Prop := fun pol s =>
  s.K < countV (nth b.Policies pol.toNat) ∧ s.People = callV c b (nth (nth b.Policies pol.toNat).Steps (s.K % ((nth b.Policies pol.toNat).Steps.length : Int)).toNat) s.At
theorem QP.step {M : Int} {c : D.Config} {b : D.Book} : StepQ (QP c b) M c b := fun p _ _ h => ⟨h, rfl⟩
end Go.Proofs.YtfhcigjkfelnfaaGreat
/-
  What checks of pages say, and what steps, runs and answers keep of the lengths of pages.
-/
set_option maxRecDepth 100000
set_option linter.unusedVariables false
set_option linter.unusedSimpArgs false
namespace Go.Proofs.YtfhcigjkfelnfaaGreat
open Go AM
section
variable {R X Y : Type} {Q : R → Prop}
theorem AM.Ok.run2 {B : (X × Y → Option R) → X × Y → Option R} (n : Nat) (st : Nat → X) {r : Y} {fu : Nat} {x : X} (hx : x = st 0) (hf : n < fu) (hs : ∀ i, i < n → ∀ k, (Ok (k (st (i + 1), r)) Q → Ok (B k (st i, r)) Q)) (h : ∀ k, Ok (B k (st n, r)) Q) : Ok (iterF B fu (x, r)) Q :=
  Ok.run n (fun i => (st i, r)) (by rw [hx]) hf hs h
theorem AM.Ok.scan2 {B : (X × Y → Option R) → X × Y → Option R} (n : Nat) (st : Nat → X) {r : Y} (q : Nat → Bool) {fu : Nat} {x : X} (hx : x = st 0) (hf : n < fu) (hy : ∀ i, i < n → q i = true → (∀ j, j < i → q j = false) → ∀ k, Ok (B k (st i, r)) Q)
    (hn : ∀ i, i < n → q i = false → ∀ k, (Ok (k (st (i + 1), r)) Q → Ok (B k (st i, r)) Q)) (he : (∀ j, j < n → q j = false) → ∀ k, Ok (B k (st n, r)) Q) : Ok (iterF B fu (x, r)) Q :=
  Ok.scan n (fun i => (st i, r)) q (by rw [hx]) hf hy hn he
end
theorem set_nth {α : Type} [Inhabited α] {l : List α} {i : Nat} (h : i < l.length) : l.set i (nth l i) = l := by
  have e : nth l i = l[i] := by simp [nth, List.getD_eq_getElem?_getD, List.getElem?_eq_getElem h]
  rw [e]; exact List.set_getElem_self h
theorem asc32 : Asc ((List.range 32).map fun (i : Nat) => (i : Int)) := by unfold Asc; decide
structure CkF (b : D.Book) (p : D.Page) : Prop where
  id : 1 ≤ p.ID ∧ p.ID ≤ 999999
  pol : 0 ≤ p.Policy ∧ p.Policy < (b.Policies.length : Int)
  start : 0 ≤ p.Start ∧ p.Start ≤ 8589934592
  next : 0 ≤ p.Next ∧ p.Next ≤ countV (polOf b p)
  state : 0 ≤ p.State ∧ p.State ≤ 4
  by_ : -1 ≤ p.By ∧ p.By ≤ 31
  last : p.Start ≤ p.Last ∧ p.Last ≤ farV
  due : 0 ≤ p.Due ∧ p.Due ≤ farV
  until_ : 0 ≤ p.Until ∧ p.Until ≤ farV
  snoozes : 0 ≤ p.Snoozes ∧ p.Snoozes ≤ 4
  hands : 0 ≤ p.Hands ∧ p.Hands ≤ 4
  starts : p.Starts.length ≤ 200
  declined : setV p.Declined = true
  seen : p.Seen.Nodup ∧ p.Seen.length ≤ 64
section
variable {n : Nat} {c : D.Config} {b : D.Book} {p q : D.Page} {now : Int}
theorem checkV_facts (h : checkV b p = true) : CkF b p := by
  unfold checkV startsV seenV at h
  simp only [Bool.and_eq_true, inV_is, decide_eq_true_eq] at h
  obtain ⟨⟨⟨⟨⟨⟨⟨⟨⟨⟨⟨⟨⟨⟨h1, h2⟩, h3⟩, h4⟩, h5⟩, h6⟩, h7⟩, h8⟩, h9⟩, h10⟩, h11⟩, h12⟩, h13⟩, h14⟩, h15⟩ := h
  exact ⟨h1, by omega, h3, h5, h6, h7, h8, h9, h10, h11, h12, h13.2, h14, h15⟩
theorem CkF.polOK (h : CkF b p) (hb : BookOK b) : PolOK b.Teams.length (polOf b p) := hb.pol _ (nth_mem (by have := h.pol; omega))
theorem PageLen.stepQ (h : PageLen p) (hc : CkF b p) (hb : BookOK b) : PageLen (stepQ c b p) := by
  have h1 := hc.starts; have h2 := hc.next
  have h3 := countV_is (hc.polOK hb)
  unfold Go.Proofs.YtfhcigjkfelnfaaGreat.stepQ
  split
  · exact ⟨h.st, h.pe, h.de, h.se, h.nx⟩
  · split
    · exact ⟨h.st, h.pe, h.de, h.se, h.nx⟩
    · refine ⟨by dsimp only; simp; omega, ?_, by dsimp only; simp, h.se, by dsimp only; omega⟩
      refine mem_snoc h.pe ⟨?_, by dsimp only; omega, by dsimp only; omega⟩
      have := callV_len (c := c) (b := b) (s := stepAt b p) (t := p.Due)
      dsimp only; omega
theorem PageLen.page0 : PageLen page0 := ⟨by simp [Go.Proofs.YtfhcigjkfelnfaaGreat.page0], by simp [Go.Proofs.YtfhcigjkfelnfaaGreat.page0], by simp [Go.Proofs.YtfhcigjkfelnfaaGreat.page0], by simp [Go.Proofs.YtfhcigjkfelnfaaGreat.page0], by simp [Go.Proofs.YtfhcigjkfelnfaaGreat.page0]⟩
theorem PageLen.stepV (h : PageLen p) (hb : BookOK b) : PageLen (stepV c b p).1 := by
  unfold Go.Proofs.YtfhcigjkfelnfaaGreat.stepV
  split
  · exact .page0
  · rename_i hc
    split
    · exact .page0
    · split
      · exact .page0
      · exact h.stepQ (checkV_facts (by simpa using hc)) hb
theorem PageInv.plen {Q : Int → D.Start → Prop} {M : Int} (h : PageInv Q M b p) (hb : BookOK b) : PageLen p := by
  obtain ⟨h1, h2, h3⟩ := h.len hb
  have hf := checkV_facts (h.check hb)
  have hc := countV_is (h.polOK hb)
  have hlen : ∀ {l : List Int}, setV l = true → l.length ≤ 40 := by
    intro l hl
    have hde := setV_is.1 hl
    have e : l = ((List.range 32).map fun (i : Nat) => (i : Int)).filter fun z => l.contains z := asc_ext hde.1 (List.Pairwise.filter _ asc32) fun z => by
      simp only [List.mem_filter, List.contains_iff_mem, List.mem_map, List.mem_range]
      exact ⟨fun hz => ⟨⟨z.toNat, by have := hde.2 z hz; omega, by have := hde.2 z hz; omega⟩, hz⟩, fun hz => hz.2⟩
    rw [e]
    exact Nat.le_trans (List.length_filter_le _ _) (by simp)
  refine ⟨by omega, fun s hs => ?_, hlen h.declined, by have := hf.seen; omega, by have := hf.next; omega⟩
  obtain ⟨t, g1, _⟩ := h.goes
  obtain ⟨k1, k2, k3⟩ := g1.scan
  obtain ⟨i, hi, rfl⟩ := List.getElem_of_mem hs
  have := k3 i hi
  have hkk : kN p.Starts i ≤ 300 := by
    unfold kN
    have := List.length_filter_le (fun s : D.Start => decide (0 ≤ s.K)) (p.Starts.take i)
    have := List.length_take_le i p.Starts
    omega
  rw [show nth p.Starts i = p.Starts[i] by simp [nth, List.getD_eq_getElem?_getD, List.getElem?_eq_getElem hi]] at this
  exact ⟨hlen this.2.1, by omega, by omega⟩
end
end Go.Proofs.YtfhcigjkfelnfaaGreat
/-
  Pages on their way: what the program's steps and runs compute.
-/
set_option maxRecDepth 100000
set_option linter.unusedVariables false
set_option linter.unusedSimpArgs false
namespace Go.Proofs.YtfhcigjkfelnfaaGreat
open Go AM
attribute [local irreducible] dueV stepV runV checkV
section
variable {n : Nat} {c : D.Config} {b : D.Book} {p q : D.Page} {now : Int}
theorem due_is : escalate_Due 1000 p = some (dueV p) := by
  unfold escalate_Due dueV
  by_cases h0 : p.State = 0
  · simp [AM.cnd, h0]
  · by_cases h2 : p.State = 2 <;> simp [AM.cnd, h0, h2]
theorem waits_is {t : Int} : escalate_waits 1000 p t = some (waitB p t) := by
  unfold escalate_waits waitB
  rw [due_is, optc_s]
  obtain ⟨a, d⟩ := dueV p
  cases d <;> by_cases h : a ≤ t <;> simp [AM.cnd, h]
theorem cloneS_is {l : List D.Start} (h : l.length ≤ 1000) : slices_Clone_Start 1000 l = some l := by unfold slices_Clone_Start; exact clone_is (by omega)
theorem cloneI_is {l : List Int} (h : l.length ≤ 1000) : slices_Clone_int 1000 l = some l := by unfold slices_Clone_int; exact clone_is (by omega)
theorem cloneP_is {l : List Int} (h : l.length ≤ 1000) : slices_Clone_int_p 1000 l = some l := by unfold slices_Clone_int_p; exact clone_is (by omega)
theorem copied_is (h : PageLen p) : escalate_copied 1000 p = some p := by
  have h1 := h.st; have h2 := h.de; have h3 := h.se
  refine Ok.eq ?_
  unfold escalate_copied
  refine Ok.oe (cloneS_is (by omega)) ?_
  refine Ok.run2 p.Starts.length (fun i => (((p.Starts.length : Nat) : Int), (i : Int), ())) rfl (by omega) (fun i hi k hk => ?_) (fun k => ?_)
  · dsimp only
    have hp := (h.pe _ (nth_mem hi)).1
    refine Ok.p (by omega) (Ok.natn (Ok.lt hi (Ok.get hi (Ok.oe (cloneP_is (by omega)) (Ok.natn (Ok.lt hi (Ok.get hi ?_)))))))
    rw [wrap_succ (by omega), show (D.Start.mk (nth p.Starts i).K (nth p.Starts i).At (nth p.Starts i).People) = nth p.Starts i from rfl, set_nth hi]
    exact hk
  · dsimp only
    exact Ok.n (by omega) (Ok.oe (cloneI_is (by omega)) (Ok.oe (cloneI_is (by omega)) (Ok.s rfl)))
def partV (q : D.Policy) (i : Int) : Int × Int × Bool := if 0 ≤ i ∧ i < countV q then (i % (q.Steps.length : Int), i / (q.Steps.length : Int), true) else (0, 0, false)
theorem part_is {m : Nat} {q : D.Policy} {i : Int} (h : PolOK m q) : policy_Part 1000 q i = some (partV q i) := by
  have h2 := h.len
  have hc := countV_is h
  refine Ok.eq ?_
  unfold policy_Part partV
  refine Ok.oe (count_is h) ?_
  rw [wrap_id (x := countV q - 1) (by omega)]
  refine Ok.oe pIn ?_
  by_cases hi : 0 ≤ i ∧ i < countV q
  · have g1 := Int.ediv_le_self (a := i) (q.Steps.length : Int) hi.1
    have g2 : 0 ≤ i / (q.Steps.length : Int) := Int.ediv_nonneg hi.1 (by omega)
    refine Ok.np (by omega) (Ok.nzc (by omega) (Ok.nzc (by omega) (Ok.s ?_)))
    rw [if_pos hi, Int.tmod_eq_emod_of_nonneg hi.1, Int.tdiv_eq_ediv_of_nonneg hi.1, wrap_id (by omega)]
  · refine Ok.nn (by omega) (Ok.s ?_)
    rw [if_neg hi]
theorem mod_in {q : D.Policy} {i : Int} (h : 1 ≤ q.Steps.length) : 0 ≤ i % (q.Steps.length : Int) ∧ i % (q.Steps.length : Int) < (q.Steps.length : Int) :=
  ⟨Int.emod_nonneg _ (by omega), Int.emod_lt_of_pos _ (by omega)⟩
abbrev pgA (p : D.Page) : Int × Int × Int × Int × Int × Int × Int × Int × Int × Int × Int × Unit := (p.ID, p.Policy, p.Start, p.Next, p.Due, p.State, p.By, p.Until, p.Last, p.Snoozes, p.Hands, ())
theorem begin1_is (h : CfgOK n c) (hn : n ≤ 48) {x : Int} {s : D.PolicyStep} : escalate_begin_1_b11_12_13 1000 x c p s = some (!reachV c x p.Due s.Urgent, p) := by
  unfold escalate_begin_1_b11_12_13
  rw [reach_is h hn, optc_s, sameC_p, sameC_p]
theorem idxB_ok (h : CfgOK n c) (hn : n ≤ 48) {s : D.PolicyStep} {l0 : List Int} {m : Nat} (hm : m ≤ l0.length) (hl : m ≤ 900) :
    Ok (slices_IndexFunc_int_1Fescalate_begin_1b11_12_13_0v 1000 0 m l0 c p s) fun r => r.2 = p ∧ (r.1 = -1 ∧ (∀ j, j < m → reachV c (nth l0 j) p.Due s.Urgent = true) ∨ ∃ i : Nat, r.1 = (i : Int) ∧ i < m ∧ reachV c (nth l0 i) p.Due s.Urgent = false ∧ ∀ j, j < i → reachV c (nth l0 j) p.Due s.Urgent = true) := by
  unfold slices_IndexFunc_int_1Fescalate_begin_1b11_12_13_0v
  rw [Nat.sub_zero]
  refine Ok.scan2 m (fun i => (0, m, ((m : Nat) : Int), (i : Int), ())) (fun i => !reachV c (nth l0 i) p.Due s.Urgent) rfl (by omega) (fun i hi hq hj k => ?_) (fun i hi hq k hk => ?_) (fun hq k => ?_)
  · dsimp only
    rw [Nat.sub_zero]
    refine Ok.p (by omega) (Ok.natn (Ok.lt (by omega) ?_))
    rw [Nat.zero_add]
    refine Ok.get (by omega) (Ok.oe (begin1_is (p := p) h hn) ?_)
    exact Ok.bt hq (Ok.sameC (Ok.sameC (Ok.sameC (Ok.s ⟨rfl, .inr ⟨i, rfl, hi, by simpa using hq, fun j hj' => by simpa using hj j hj'⟩⟩))))
  · dsimp only
    rw [Nat.sub_zero]
    refine Ok.p (by omega) (Ok.natn (Ok.lt (by omega) ?_))
    rw [Nat.zero_add]
    refine Ok.get (by omega) (Ok.oe (begin1_is (p := p) h hn) (Ok.bf hq ?_))
    rw [wrap_succ (by omega)]
    exact hk
  · exact Ok.n (by omega) (Ok.sameC (Ok.sameC (Ok.sameC (Ok.s ⟨rfl, .inl ⟨rfl, fun j hj => by simpa using hq j hj⟩⟩))))
theorem delB_ok (h : CfgOK n c) (hn : n ≤ 48) {s : D.PolicyStep} {l0 : List Int} {m : Nat} (hm : m ≤ l0.length) (hl : l0.length ≤ 900) :
    Ok (slices_DeleteFunc_int_1Fescalate_begin_1b11_12_13_0v 1000 0 m l0 c p s) fun r => r.2.2.1 = p ∧ List.drop r.1 (List.take r.2.1 r.2.2.2) = (l0.take m).filter fun z => reachV c z p.Due s.Urgent := by
  unfold slices_DeleteFunc_int_1Fescalate_begin_1b11_12_13_0v
  refine Ok.opt (idxB_ok h hn hm (by omega)) fun ⟨r, p'⟩ ⟨hp', hr⟩ => ?_
  dsimp only at hp' hr ⊢
  subst hp'
  rcases hr with ⟨rfl, hall⟩ | ⟨i, rfl, hi, hx, hj⟩
  · refine Ok.p rfl (Ok.sameC (Ok.sameC (Ok.s ⟨rfl, ?_⟩)))
    dsimp only
    rw [List.drop_zero, filter_all (q := fun z => reachV c z p'.Due s.Urgent) hm hall]
  · refine Ok.n (by omega) ?_
    rw [wrap_succ (by omega)]
    refine Ok.loop (fun q x => ∃ (w j : Nat) (a : List Int), x = ((0, m, ((w : Nat) : Int), ((j : Nat) : Int), ()), c, pgA p', s, a, p'.Starts, p'.Declined, p'.Seen, ()) ∧ DelInv (l0) (fun z => reachV c z p'.Due s.Urgent) w j a ∧ (w < j ∧ j ≤ m) ∧ q = m - j) (m := m - (i + 1)) (by omega) ⟨i, i + 1, l0, rfl, del_start (by omega) hj hx, by omega, rfl⟩ ?_
    rintro q x ⟨w, j, a, rfl, hinv, hjm, rfl⟩ K hK
    have h1 := hinv.wj
    have h2 := hinv.len
    dsimp only
    rw [Nat.sub_zero]
    refine Ok.ite (fun hlt => ?_) (fun hge => ?_)
    · refine Ok.j (Ok.natn (Ok.lt (by omega) ?_))
      rw [Nat.zero_add]
      refine Ok.get (by omega) (Ok.oe (begin1_is (p := p') h hn) ?_)
      dsimp only
      rw [Bool.not_not]
      refine Ok.cnd (fun hq => ?_) (fun hq => ?_)
      · refine Ok.natn (Ok.lt (by omega) ?_)
        rw [Nat.zero_add]
        refine Ok.get (by omega) ?_
        rw [wrap_succ (by omega), wrap_succ (by omega)]
        exact hK _ _ (by omega) ⟨w + 1, j + 1, _, rfl, del_keep hinv (by omega) hq, by omega, rfl⟩
      · rw [wrap_succ (by omega)]
        exact hK _ _ (by omega) ⟨w, j + 1, a, rfl, del_skip hinv (by omega) hq, by omega, rfl⟩
    · have ej : j = m := by omega
      have hd := hinv.done
      rw [ej] at hd
      refine Ok.natn (Ok.lt (by omega) (Ok.lec (by omega) (Ok.lec (by omega) (Ok.natn (Ok.lec (by omega) (Ok.sameC (Ok.sameC (Ok.s ⟨rfl, ?_⟩))))))))
      dsimp only
      simp only [Nat.zero_add, List.drop_zero]
      rw [List.append_assoc, List.take_append_of_le_length (by simp; omega), List.take_take, Nat.min_self]
      exact hd
theorem begin_ok (h : CfgOK n c) (hn : n ≤ 48) (hb : BookOK b) (hf : CkF b p) (hnx : p.Next < countV (polOf b p)) (hs : p.Starts.length ≤ 300) :
    Ok (escalate_begin_2c11c12c13 1000 c b p) fun r => r.1 = { p with Starts := p.Starts ++ [⟨p.Next, p.Due, callV c b (stepAt b p) p.Due⟩], Declined := [], Next := p.Next + 1, Due := if callV c b (stepAt b p) p.Due = [] then p.Due else p.Due + (stepAt b p).Wait } := by
  have hp := hf.pol; have h0 := hf.next; have hd := hf.due
  have hq : PolOK b.Teams.length (polOf b p) := hf.polOK hb
  have hpl := hb.plen; have hql := hq.len
  have hc := countV_is hq
  unfold farV at hd
  unfold escalate_begin_2c11c12c13
  refine Ok.at hp.1 hp.2 ?_
  show Ok (optc (policy_Part 1000 (polOf b p) p.Next) _) _
  refine Ok.oe (part_is hq) ?_
  unfold partV
  rw [if_pos ⟨h0.1, hnx⟩]
  dsimp only
  have hm := mod_in (q := polOf b p) (i := p.Next) hql.1
  refine Ok.at hm.1 hm.2 ?_
  have hst := hq.step _ (step_in hq h0.1)
  have hw : 0 ≤ (stepAt b p).Wait ∧ (stepAt b p).Wait ≤ 900 := hst.wait
  have hlen : (stepAt b p).Targets.length ≤ 2 := hst.len
  rw [show nth (nth b.Policies p.Policy.toNat).Steps (p.Next % ((polOf b p).Steps.length : Int)).toNat = stepAt b p from rfl]
  refine Ok.opt (people_ok h hn hb hst.target (by omega)) fun ⟨v0, v1, v2⟩ ⟨g1, g2, g3, g4⟩ => ?_
  dsimp only at g1 g2 g3 g4 ⊢
  subst g1
  refine Ok.opt (delB_ok (s := stepAt b p) h hn g2 (by omega)) fun ⟨w0, w1, w2, w3⟩ ⟨e1, e2⟩ => ?_
  dsimp only at e1 e2 ⊢
  subst e1
  rw [e2, g4]
  show Ok (AM.lec (w2.Starts.length + _) _ _) _
  have hcall : (List.filter (fun z => reachV c z w2.Due (stepAt b w2).Urgent) (peopleV c b (stepAt b w2).Targets w2.Due)) = callV c b (stepAt b w2) w2.Due := rfl
  rw [hcall]
  refine Ok.lec (by simp; omega) (Ok.j (Ok.ite (fun hpos => Ok.s ?_) (fun hpos => Ok.s ?_)))
  · have hne : callV c b (stepAt b w2) w2.Due ≠ [] := fun e => by rw [e] at hpos; simp at hpos
    show _ = _
    rw [if_neg hne, wrap_id (by omega), wrap_id (by omega)]
  · have he : callV c b (stepAt b w2) w2.Due = [] := List.eq_nil_iff_length_eq_zero.2 (by omega)
    show _ = _
    rw [if_pos he, wrap_id (by omega)]
theorem step_is (h : CfgOK n c) (hn : n ≤ 48) (hb : BookOK b) (hp : PageLen p) : escalate_Step 1000 c b p = some (stepV c b p) := by
  refine Ok.eq ?_
  unfold escalate_Step
  have hst := hp.st
  refine Ok.oe due_is (Ok.oe (check_is hb hp) (Ok.ncnd (fun hc => Ok.s ?_) (fun hc => ?_)))
  · unfold stepV; rw [if_pos hc]; rfl
  have hf := checkV_facts hc
  refine Ok.ncnd (fun hd => Ok.s ?_) (fun hd => ?_)
  · unfold stepV; rw [if_neg (by rw [hc]; simp), if_pos hd]; rfl
  refine Ok.ite (fun hl => Ok.s ?_) (fun hl => ?_)
  · unfold stepV; rw [if_neg (by rw [hc]; simp), if_neg (by rw [hd]; simp), if_pos (by omega)]; rfl
  have hV : stepV c b p = (stepQ c b p, 0) := by unfold stepV; rw [if_neg (by rw [hc]; simp), if_neg (by rw [hd]; simp), if_neg (by omega)]
  rw [hV]
  have hs := due_state hd
  have hpol := hf.pol; have hnx := hf.next; have hl2 := hf.last; have hdu := hf.due
  refine Ok.oe (copied_is hp) (Ok.j (Ok.ite (fun h2 => Ok.s ?_) (fun h2 => ?_)))
  · unfold stepQ
    rw [if_pos h2, dueV_fst2 h2, Int.max_comm]
  · have h0 : p.State = 0 := by omega
    refine Ok.at hpol.1 hpol.2 ?_
    show Ok (optc (policy_Count 1000 (polOf b p)) _) _
    refine Ok.oe (count_is (hf.polOK hb)) (Ok.ite (fun he => Ok.s ?_) (fun he => ?_))
    · unfold stepQ
      rw [if_neg h2, if_pos (by omega), dueV_fst0 h0, Int.max_comm]
    · have hf' : CkF b { p with Last := max p.Last p.Due } := ⟨hf.id, hf.pol, hf.start, hf.next, hf.state, hf.by_, by dsimp only; omega, hf.due, hf.until_, hf.snoozes, hf.hands, hf.starts, hf.declined, hf.seen⟩
      have hb' := begin_ok (p := { p with Last := max p.Last p.Due }) h hn hb hf' (by show p.Next < countV (polOf b p); omega) hst
      have hQ : stepQ c b p = { p with Last := max p.Due p.Last, Starts := p.Starts ++ [⟨p.Next, p.Due, callV c b (stepAt b p) p.Due⟩], Declined := [], Next := p.Next + 1, Due := if callV c b (stepAt b p) p.Due = [] then p.Due else p.Due + (stepAt b p).Wait } := by
        unfold stepQ; rw [if_neg h2, if_neg (show ¬ countV (polOf b p) ≤ p.Next by omega)]
      rw [dueV_fst0 h0, hQ, Int.max_comm p.Due p.Last]
      refine Ok.opt hb' fun ⟨r, z⟩ hr => Ok.s ?_
      dsimp only at hr ⊢
      subst hr
      rfl
theorem run_is (h : CfgOK n c) (hn : n ≤ 48) (hb : BookOK b) (hp : PageLen p) : escalate_Run 1000 c b p now = some (runV c b p now) := by
  refine Ok.eq ?_
  unfold escalate_Run
  refine Ok.oe (check_is hb hp) (Ok.ncnd (fun hc => Ok.s ?_) (fun hc => ?_))
  · unfold runV; rw [if_pos hc]; rfl
  rw [runV_is hc]
  have hf := checkV_facts hc
  have hcn := countV_is (hf.polOK hb)
  have hnx := hf.next
  have hle : leftV b p ≤ 11 := by
    unfold leftV
    split
    · omega
    · split <;> omega
  refine Ok.oe (copied_is hp) ?_
  refine Ok.loop (fun m x => ∃ (q : D.Page) (k : Nat), x = ((now, ()), c, b, q, page0, ()) ∧ PageLen q ∧ leftV b q + 1 ≤ k ∧ runN c b now k q = runN c b now 100 p ∧ m = leftV b q) (m := leftV b p) (by omega) ⟨p, 100, rfl, hp, by omega, rfl, rfl⟩ ?_
  rintro m x ⟨q, k, rfl, hq, hk, he, rfl⟩ K hK
  dsimp only
  obtain ⟨k, rfl⟩ : ∃ k', k = k' + 1 := ⟨k - 1, by omega⟩
  rw [runN] at he
  refine Ok.oe waits_is (Ok.cnd (fun hw => ?_) (fun hw => Ok.s ?_))
  · rw [if_pos hw] at he
    refine Ok.oe (step_is h hn hb hq) (Ok.ite (fun h1 => Ok.s ?_) (fun h1 => ?_))
    · rw [if_pos h1] at he; exact he
    · rw [if_neg h1] at he
      have hd := waitB_due hw
      have hst : stepV c b q = (stepQ c b q, 0) := by
        revert h1
        unfold stepV
        split
        · simp
        · split
          · simp
          · split
            · simp
            · intro _; rfl
      have hl := step_left (c := c) (b := b) hd.1
      rw [hst] at he ⊢
      refine hK (leftV b (stepQ c b q)) _ hl ⟨stepQ c b q, k, rfl, ?_, by omega, he, rfl⟩
      have := hq.stepV (c := c) hb
      rw [hst] at this; exact this
  · rw [if_neg (by simp [hw])] at he; exact he
end
end Go.Proofs.YtfhcigjkfelnfaaGreat
/-
  Pages on their way: what the reference's checks, steps, runs and answers compute.
-/
set_option maxRecDepth 100000
set_option linter.unusedVariables false
set_option linter.unusedSimpArgs false
namespace Go.Proofs.YtfhcigjkfelnfaaGreat
open Go AM
attribute [local irreducible] dueV stepV runV checkV
section
variable {n : Nat} {c : D.Config} {b : D.Book} {p q : D.Page} {now : Int} {a : D.Answer}
theorem rin {fu : Nat} {x lo hi : Int} : r25_In fu x lo hi = some (inV x lo hi) := by
  unfold r25_In inV
  by_cases h1 : lo ≤ x <;> by_cases h2 : x ≤ hi <;> simp [AM.cnd, h1, h2]
theorem badS_t {l : List Int} {i : Nat} : badS l i = true ↔ ¬ (0 ≤ nth l i ∧ nth l i ≤ 31 ∧ (i = 0 ∨ nth l (i - 1) < nth l i)) := by
  unfold badS
  rw [Bool.not_eq_true', Bool.eq_false_iff]
  simp only [ne_eq, Bool.and_eq_true, Bool.or_eq_true, decide_eq_true_eq, and_assoc]
theorem badS_f {l : List Int} {i : Nat} : badS l i = false ↔ (0 ≤ nth l i ∧ nth l i ≤ 31 ∧ (i = 0 ∨ nth l (i - 1) < nth l i)) := by
  rw [← Bool.not_eq_true, badS_t, Decidable.not_not]
theorem set25_is {l : List Int} (hl : l.length < 900) : r25_Set 1000 l 32 = some (setV l) := by
  refine Ok.eq ?_
  unfold r25_Set
  refine Ok.scan l.length (fun i => ((l, 32, (i : Int), ()), ())) (badS l) rfl (by omega) (fun i hi hq _ k => ?_) (fun i hi hq k hk => ?_) (fun hq k => ?_)
  · have hb := badS_t.1 hq
    dsimp only
    rw [setV_bad hi hq]
    refine Ok.p (by omega) (Ok.j (Ok.atn hi (Ok.ite (fun h1 => Ok.s rfl) (fun h1 => Ok.atn hi (Ok.ite (fun h2 => Ok.s rfl) (fun h2 => ?_))))))
    have h0 : 0 < i := by omega
    refine Ok.p (by omega) ?_
    rw [show IntKind.wrap .i64 ((i : Int) - 1) = ((i - 1 : Nat) : Int) by rw [wrap_id (by omega)]; omega]
    exact Ok.atn (by omega) (Ok.atn hi (Ok.p (by omega) (Ok.s rfl)))
  · have hb := badS_f.1 hq
    dsimp only
    refine Ok.p (by omega) (Ok.j (Ok.atn hi (Ok.n (by omega) (Ok.atn hi (Ok.n (by omega) ?_)))))
    dsimp only
    rw [wrap_succ (by omega)]
    by_cases h0 : 0 < i
    · refine Ok.p (by omega) ?_
      rw [show IntKind.wrap .i64 ((i : Int) - 1) = ((i - 1 : Nat) : Int) by rw [wrap_id (by omega)]; omega]
      exact Ok.atn (by omega) (Ok.atn hi (Ok.n (by omega) hk))
    · exact Ok.n (by omega) hk
  · exact Ok.n (by omega) (Ok.s (setV_good hq).symm)
theorem starts29_is (h : PageLen p) : r29_starts 1000 p = some (startsV p) := by
  have hst := h.st
  have hnx := h.nx
  refine Ok.eq ?_
  unfold r29_starts startsV
  refine Ok.loop (fun m x => ∃ (i : Nat) (k t : Int), x = ((k, t, (i : Int), ()), p, ()) ∧ i ≤ p.Starts.length ∧ -1 ≤ k ∧ k ≤ 1000000 ∧ startsF p.Next k t (p.Starts.drop i) = startsF p.Next (-1) p.Start p.Starts ∧ m = p.Starts.length - i) (m := p.Starts.length) (by omega)
    ⟨0, -1, p.Start, rfl, by omega, by omega, by omega, rfl, rfl⟩ ?_
  rintro m x ⟨i, k, t, rfl, h1, h2, h2', h3, rfl⟩ K hK
  dsimp only
  refine Ok.ite (fun hi => ?_) (fun hi => ?_)
  · have hlt : i < p.Starts.length := by omega
    have hs := h.pe _ (nth_mem hlt)
    refine Ok.j (Ok.atn hlt ?_)
    obtain ⟨s, hse⟩ : ∃ s, nth p.Starts i = s := ⟨_, rfl⟩
    rw [drop_nth' hlt, startsF, hse] at h3
    rw [hse] at hs ⊢
    refine Ok.join (fun y => y = ((k, (i : Int), ()), p, s, ()) ∧ t ≤ s.At ∧ (s.K = -1 ∨ 0 ≤ s.K ∧ k < s.K ∧ s.K < p.Next) ∧ setV s.People = true) (fun y hy => ?_) (fun J hJ => ?_)
    · obtain ⟨rfl, c1, c2, c3⟩ := hy
      have hC : (decide (t ≤ s.At) && (decide (s.K = -1) || decide (0 ≤ s.K) && decide (k < s.K) && decide (s.K < p.Next)) && setV s.People) = true := by
        rw [c3]; simp; omega
      rw [hC, Bool.true_and] at h3
      dsimp only
      rw [wrap_succ (by omega)]
      refine Ok.ite (fun g => ?_) (fun g => ?_)
      · rw [show max k s.K = s.K by omega] at h3
        exact hK _ _ (by omega) ⟨i + 1, s.K, s.At, rfl, by omega, by omega, by omega, h3, rfl⟩
      · rw [show max k s.K = k by omega] at h3
        exact hK _ _ (by omega) ⟨i + 1, k, s.At, rfl, by omega, by omega, by omega, h3, rfl⟩
    · refine Ok.ite (fun g1 => Ok.s ?_) (fun g1 => Ok.ite (fun g2 => Ok.s ?_) (fun g2 => Ok.ite (fun g3 => Ok.ite (fun g4 => Ok.s ?_) (fun g4 => Ok.ite (fun g5 => Ok.s ?_) (fun g5 => Ok.oe (set25_is (by omega)) (Ok.cnd (fun g6 => hJ _ ⟨rfl, by omega, by omega, g6⟩) (fun g6 => Ok.s ?_))))) (fun g3 => Ok.oe (set25_is (by omega)) (Ok.cnd (fun g6 => hJ _ ⟨rfl, by omega, by omega, g6⟩) (fun g6 => Ok.s ?_)))))
      · rw [← h3, decide_eq_false (show ¬ t ≤ s.At by omega)]; rfl
      · rw [← h3, decide_eq_false (show ¬ s.K = -1 by omega), decide_eq_false (show ¬ 0 ≤ s.K by omega)]; simp
      · rw [← h3, decide_eq_false (show ¬ s.K = -1 by omega), decide_eq_false (show ¬ k < s.K by omega)]; simp
      · rw [← h3, decide_eq_false (show ¬ s.K = -1 by omega), decide_eq_false (show ¬ s.K < p.Next by omega)]; simp
      · rw [← h3, g6]; simp
      · rw [← h3, g6]; simp
  · have e : i = p.Starts.length := by omega
    refine Ok.s ?_
    subst e
    rw [List.drop_length, startsF] at h3
    rw [← h3, Bool.true_and]
    exact decide_eq_decide.2 (by omega)
theorem count25_is {m : Nat} {q : D.Policy} (h : PolOK m q) : r25_Count 1000 q = some (countV q) := by
  have h1 := h.rep
  have h2 := h.len
  refine Ok.eq ?_
  unfold r25_Count
  refine Ok.j (Ok.oe rin (Ok.bt (inV_is.2 (by omega)) (Ok.n (by omega) (Ok.s ?_))))
  rw [(countV_is h).1, wrap_id (x := q.Repeat + 1) (by omega), wrap_id]
  have h3 : q.Repeat = 0 ∨ q.Repeat = 1 ∨ q.Repeat = 2 := by omega
  rcases h3 with h3 | h3 | h3 <;> rw [h3] <;> omega
theorem waits25_is {m : Nat} {q : D.Policy} (h : PolOK m q) : r25_Waits 1000 q = some true := by
  have h2 := h.len
  refine Ok.eq ?_
  unfold r25_Waits
  refine Ok.run2 q.Steps.length (fun i => ((i : Int), ())) rfl (by omega) (fun i hi k hk => ?_) (fun k => Ok.n (by omega) (Ok.s rfl))
  dsimp only
  have hw := (h.step _ (nth_mem hi)).wait
  refine Ok.p (by omega) (Ok.atn hi (Ok.oe rin (Ok.nt (inV_is.2 (by omega)) ?_)))
  rw [wrap_succ (by omega)]
  exact hk
theorem part25_is {m : Nat} {q : D.Policy} {i : Int} (h : PolOK m q) : r25_Part 1000 q i = some (partV q i) := by
  have h2 := h.len
  have hc := countV_is h
  refine Ok.eq ?_
  unfold r25_Part partV
  refine Ok.j (Ok.ite (fun g1 => Ok.s ?_) (fun g1 => Ok.oe (count25_is h) (Ok.ite (fun g2 => Ok.s ?_) (fun g2 => Ok.nzc (by omega) (Ok.nzc (by omega) (Ok.s ?_))))))
  · rw [if_neg (by omega)]
  · rw [if_neg (by omega)]
  · have g3 := Int.ediv_le_self (a := i) (q.Steps.length : Int) (by omega)
    have g4 : 0 ≤ i / (q.Steps.length : Int) := Int.ediv_nonneg (by omega) (by omega)
    rw [if_pos (by omega), Int.tmod_eq_emod_of_nonneg (by omega), Int.tdiv_eq_ediv_of_nonneg (by omega), wrap_id (by omega)]
def newV (b : D.Book) (id pol start : Int) : D.Page × Int :=
  if inV id 1 999999 = true ∧ inV start 0 8589934592 = true then (if inV pol 0 ((b.Policies.length : Int) - 1) = true then (newP id pol start, 0) else (page0, 3)) else (page0, 1)
theorem new29_is {id pol start : Int} (hb : BookOK b) : r29_New 1000 b id pol start = some (newV b id pol start) := by
  have hp := hb.plen
  refine Ok.eq ?_
  unfold r29_New newV
  refine Ok.j (Ok.oe rin (Ok.cnd (fun h1 => Ok.oe rin (Ok.cnd (fun h2 => ?_) (fun h2 => Ok.s ?_))) (fun h1 => Ok.s ?_)))
  · dsimp only
    rw [if_pos ⟨h1, h2⟩, wrap_id (by omega)]
    refine Ok.oe rin (Ok.ncnd (fun h3 => Ok.s ?_) (fun h3 => Ok.s ?_))
    · rw [if_neg (by rw [h3]; simp)]; rfl
    · rw [if_pos h3]; rfl
  · rw [if_neg (by rw [h2]; simp)]; rfl
  · rw [if_neg (by rw [h1]; simp)]; rfl
theorem check29_is (hb : BookOK b) (h : PageLen p) : r29_Check 1000 b p = some (checkV b p) := by
  have hde := h.de; have hse := h.se
  have hpl := hb.plen
  refine Ok.eq ?_
  unfold r29_Check
  refine Ok.j (Ok.oe (new29_is hb) ?_)
  unfold newV
  by_cases h1 : inV p.ID 1 999999 = true ∧ inV p.Start 0 8589934592 = true
  · rw [if_pos h1]
    by_cases h2 : inV p.Policy 0 ((b.Policies.length : Int) - 1) = true
    · rw [if_pos h2]
      have h2' := inV_is.1 h2
      have hq : PolOK b.Teams.length (polOf b p) := hb.pol _ (nth_mem (by omega))
      have hw := waits_true hq
      refine Ok.n (by simp) (Ok.at h2'.1 (by omega) ?_)
      show Ok (optc (r25_Waits 1000 (polOf b p)) _) _
      refine Ok.oe (waits25_is hq) (Ok.t (Ok.at h2'.1 (by omega) ?_))
      show Ok (optc (r25_Count 1000 (polOf b p)) _) _
      refine Ok.oe (count25_is hq) (Ok.oe rin (Ok.cnd (fun h4 => ?_) (fun h4 => Ok.s (by simp [checkV, h4]))))
      refine Ok.j (Ok.oe rin (Ok.cnd (fun h5 => ?_) (fun h5 => Ok.s (by simp [checkV, h5]))))
      refine Ok.oe rin (Ok.cnd (fun h6 => ?_) (fun h6 => Ok.s (by simp [checkV, h6])))
      refine Ok.oe rin (Ok.cnd (fun h7 => ?_) (fun h7 => Ok.s (by have h7 : inV p.Last p.Start farV = false := h7; simp [checkV, h7])))
      refine Ok.oe rin (Ok.cnd (fun h8 => ?_) (fun h8 => Ok.s (by have h8 : inV p.Due 0 farV = false := h8; simp [checkV, h8])))
      refine Ok.oe rin (Ok.cnd (fun h9 => ?_) (fun h9 => Ok.s (by have h9 : inV p.Until 0 farV = false := h9; simp [checkV, h9])))
      refine Ok.j (Ok.oe rin (Ok.cnd (fun h10 => ?_) (fun h10 => Ok.s (by simp [checkV, h10]))))
      refine Ok.oe rin (Ok.cnd (fun h11 => ?_) (fun h11 => Ok.s (by simp [checkV, h11])))
      refine Ok.oe (starts29_is h) (Ok.cnd (fun h12 => ?_) (fun h12 => Ok.s (by simp [checkV, h12])))
      refine Ok.oe (set25_is (by omega)) (Ok.cnd (fun h13 => ?_) (fun h13 => Ok.s (by simp [checkV, h13])))
      refine Ok.ite (fun h14 => Ok.s (by simp [checkV, seenV, decide_eq_false (show ¬ p.Seen.length ≤ 64 by omega)])) (fun h14 => ?_)
      have h7' : inV p.Last p.Start farV = true := h7
      have h8' : inV p.Due 0 farV = true := h8
      have h9' : inV p.Until 0 farV = true := h9
      have hcv : checkV b p = seenV p.Seen := by simp [checkV, h1.1, h1.2, h2, hw, h4, h5, h6, h7', h8', h9', h10, h11, h12, h13]
      rw [hcv]
      unfold seenV
      rw [decide_eq_true (show p.Seen.length ≤ 64 by omega), Bool.and_true]
      refine Ok.scan2 p.Seen.length (fun i => ((i : Int), ())) (fun i => (p.Seen.take i).contains (nth p.Seen i)) rfl (by omega) (fun i hi hq _ k => ?_) (fun i hi hq k hk => ?_) (fun hq k => ?_)
      · refine Ok.p (by omega) (Ok.natn (Ok.lec (by omega) (Ok.atn hi (Ok.oe (has25_is (by simp; omega)) (Ok.bt hq (Ok.s ?_))))))
        rw [seen_bad hi hq]
      · refine Ok.p (by omega) (Ok.natn (Ok.lec (by omega) (Ok.atn hi (Ok.oe (has25_is (by simp; omega)) (Ok.bf hq ?_)))))
        rw [wrap_succ (by omega)]; exact hk
      · exact Ok.n (by omega) (Ok.s (decide_eq_true (seen_good hq)).symm)
    · rw [if_neg h2]
      exact Ok.p (by simp) (Ok.s (by simp [checkV, h2]))
  · rw [if_neg h1]
    refine Ok.p (by simp) (Ok.s ?_)
    have : checkV b p = false := by
      rw [Bool.eq_false_iff]
      intro hc
      have hf := checkV_facts hc
      exact h1 ⟨inV_is.2 hf.id, inV_is.2 hf.start⟩
    rw [this]
theorem due29_is : r29_Due 1000 p = some (dueV p) := due_is
theorem called29_is (h : PageLen p) : r29_Called 1000 p = some (calledV p) := by
  have h1 := h.st
  refine Ok.eq ?_
  unfold r29_Called calledV
  refine Ok.ite (fun h0 => Ok.s ?_) (fun h0 => ?_)
  · rw [if_pos (List.eq_nil_iff_length_eq_zero.2 (by omega))]
  · have hne : p.Starts ≠ [] := fun e => h0 (by rw [e]; rfl)
    have hpos := List.length_pos_iff.2 hne
    rw [show IntKind.wrap .i64 (((p.Starts.length : Nat) : Int) - 1) = ((p.Starts.length - 1 : Nat) : Int) by rw [wrap_id (by omega)]; omega]
    have hp := (h.pe _ (nth_mem (l := p.Starts) (i := p.Starts.length - 1) (by omega))).1
    refine Ok.atn (by omega) (Ok.lec (by omega) (Ok.s ?_))
    rw [if_neg hne]
theorem copy29_is (h : PageLen p) : r29_Copy 1000 p = some p := by
  have h1 := h.st; have h2 := h.de; have h3 := h.se
  refine Ok.eq ?_
  unfold r29_Copy
  refine Ok.run p.Starts.length (fun i => (((i : Int), ()), p, page0, p.Starts.take i, ())) rfl (by omega) (fun i hi k hk => ?_) (fun k => ?_)
  · dsimp only
    have hp := (h.pe _ (nth_mem hi)).1
    refine Ok.p (by omega) (Ok.atn hi (Ok.lec (by omega) (Ok.lec (by simp; omega) ?_)))
    rw [wrap_succ (by omega), take_snoc' hi]
    exact hk
  · dsimp only
    rw [List.take_length]
    exact Ok.n (by omega) (Ok.lec (by omega) (Ok.lec (by omega) (Ok.s rfl)))
theorem filter_snoc {l : List Int} {f : Int → Bool} {i : Nat} (hi : i < l.length) : (l.take (i + 1)).filter f = (l.take i).filter f ++ (if f (nth l i) = true then [nth l i] else []) := by
  rw [← take_snoc' hi, List.filter_append]
  congr 1
  by_cases h : f (nth l i) = true
  · simp [h]
  · simp [h]
theorem step29_is (h : CfgOK n c) (hn : n ≤ 48) (hb : BookOK b) (hp : PageLen p) : r29_Step 1000 c b p = some (stepV c b p) := by
  refine Ok.eq ?_
  unfold r29_Step
  have hst := hp.st
  refine Ok.oe (check29_is hb hp) (Ok.ncnd (fun hc => Ok.s ?_) (fun hc => ?_))
  · unfold stepV; rw [if_pos hc]; rfl
  have hf := checkV_facts hc
  refine Ok.oe due29_is (Ok.ncnd (fun hd => Ok.s ?_) (fun hd => ?_))
  · unfold stepV; rw [if_neg (by rw [hc]; simp), if_pos hd]; rfl
  have hst2 := hf.starts
  refine Ok.ite (fun hl => Ok.s ?_) (fun hl => ?_)
  · unfold stepV; rw [if_neg (by rw [hc]; simp), if_neg (by rw [hd]; simp), if_pos (by omega)]; rfl
  have hV : stepV c b p = (stepQ c b p, 0) := by unfold stepV; rw [if_neg (by rw [hc]; simp), if_neg (by rw [hd]; simp), if_neg (by omega)]
  rw [hV]
  have hs := due_state hd
  have hpol := hf.pol; have hnx := hf.next; have hl2 := hf.last; have hdu := hf.due
  refine Ok.oe (copy29_is hp) (Ok.ite (fun h2 => Ok.s ?_) (fun h2 => ?_))
  · unfold stepQ
    rw [if_pos h2, dueV_fst2 h2]
  · have h0 : p.State = 0 := by omega
    have hq := hf.polOK hb
    have hcn := countV_is hq
    have hql := hq.len
    refine Ok.at hpol.1 hpol.2 ?_
    show Ok (optc (r25_Part 1000 (polOf b p) p.Next) _) _
    refine Ok.oe (part25_is hq) ?_
    unfold partV
    rw [dueV_fst0 h0]
    by_cases he : p.Next < countV (polOf b p)
    · rw [if_pos ⟨hnx.1, he⟩]
      dsimp only
      have hm := mod_in (q := polOf b p) (i := p.Next) hql.1
      refine Ok.f (Ok.at hm.1 hm.2 ?_)
      have hstp := hq.step _ (step_in hq hnx.1)
      have hw : 0 ≤ (stepAt b p).Wait ∧ (stepAt b p).Wait ≤ 900 := hstp.wait
      have hlen : (stepAt b p).Targets.length ≤ 2 := hstp.len
      show Ok (optc (r25_People 1000 c b (stepAt b p).Targets p.Due) _) _
      refine Ok.oe (peopleR_ok h hn hb hstp.target (by omega)) ?_
      have hpl := peopleV_len (c := c) (b := b) (l := (stepAt b p).Targets) (t := p.Due)
      obtain ⟨l, hl3⟩ : ∃ l, peopleV c b (stepAt b p).Targets p.Due = l := ⟨_, rfl⟩
      rw [hl3] at hpl ⊢
      have hcall : callV c b (stepAt b p) p.Due = l.filter fun z => reachV c z p.Due (stepAt b p).Urgent := by unfold callV; rw [hl3]
      refine Ok.run l.length (fun i => ((p.Due, p.Next % ((polOf b p).Steps.length : Int), l, (i : Int), ()), c, p, page0, (p.ID, p.Policy, p.Start, p.Next, p.Due, p.State, p.By, p.Until, max p.Due p.Last, p.Snoozes, p.Hands, ()), polOf b p, (p.Next, p.Due, ()), p.Starts, p.Declined, p.Seen, (l.take i).filter (fun z => reachV c z p.Due (stepAt b p).Urgent), ())) rfl (by omega) (fun i hi k hk => ?_) (fun k => ?_)
      · dsimp only
        have hfl := List.length_filter_le (fun z => reachV c z p.Due (stepAt b p).Urgent) (l.take i)
        have htl := List.length_take_le i l
        refine Ok.p (by omega) (Ok.j (Ok.atn hi (Ok.at hm.1 hm.2 (Ok.oe (reachR_is h hn) ?_))))
        show Ok (AM.cnd (reachV c (nth l i) p.Due (stepAt b p).Urgent) _ _) _
        rw [filter_snoc hi] at hk
        refine Ok.cnd (fun g => Ok.atn hi (Ok.lec (by simp; omega) ?_)) (fun g => ?_)
        · dsimp only
          rw [if_pos g] at hk
          rw [wrap_succ (by omega)]
          exact hk
        · dsimp only
          rw [if_neg (by rw [g]; simp), List.append_nil] at hk
          rw [wrap_succ (by omega)]
          exact hk
      · dsimp only
        rw [List.take_length, ← hcall]
        unfold stepQ
        rw [if_neg h2, if_neg (by omega)]
        refine Ok.n (by omega) (Ok.lec (by simp; omega) (Ok.j (Ok.ite (fun g => Ok.at hm.1 hm.2 (Ok.s ?_)) (fun g => Ok.s ?_))))
        · have hne : callV c b (stepAt b p) p.Due ≠ [] := fun e => by rw [e] at g; simp at g
          unfold farV at hdu
          show _ = _
          rw [if_neg hne, wrap_id (by omega)]
          have : IntKind.wrap .i64 (p.Due + (stepAt b p).Wait) = p.Due + (stepAt b p).Wait := wrap_id (by omega)
          unfold stepAt at this
          rw [this]
          rfl
        · have he' : callV c b (stepAt b p) p.Due = [] := List.eq_nil_iff_length_eq_zero.2 (by omega)
          show _ = _
          rw [if_pos he', wrap_id (by omega)]
    · rw [if_neg (by omega)]
      dsimp only
      refine Ok.t (Ok.s ?_)
      unfold stepQ
      rw [if_neg h2, if_pos (by omega)]
theorem run29_is (h : CfgOK n c) (hn : n ≤ 48) (hb : BookOK b) (hp : PageLen p) : r29_Run 1000 c b p now = some (runV c b p now) := by
  refine Ok.eq ?_
  unfold r29_Run
  refine Ok.oe (check29_is hb hp) (Ok.ncnd (fun hc => Ok.s ?_) (fun hc => ?_))
  · unfold runV; rw [if_pos hc]; rfl
  rw [runV_is hc]
  have hf := checkV_facts hc
  have hcn := countV_is (hf.polOK hb)
  have hnx := hf.next
  have hle : leftV b p ≤ 11 := by
    unfold leftV
    split
    · omega
    · split <;> omega
  refine Ok.oe (copy29_is hp) ?_
  refine Ok.loop (fun m x => ∃ (q : D.Page) (k : Nat), x = ((now, ()), c, b, q, page0, ()) ∧ PageLen q ∧ leftV b q + 1 ≤ k ∧ runN c b now k q = runN c b now 100 p ∧ m = leftV b q) (m := leftV b p) (by omega) ⟨p, 100, rfl, hp, by omega, rfl, rfl⟩ ?_
  rintro m x ⟨q, k, rfl, hq, hk, he, rfl⟩ K hK
  dsimp only
  obtain ⟨k, rfl⟩ : ∃ k', k = k' + 1 := ⟨k - 1, by omega⟩
  rw [runN] at he
  refine Ok.oe due29_is ?_
  have hwv : waitB q now = ((dueV q).2 && decide ((dueV q).1 ≤ now)) := rfl
  refine Ok.join (fun y => y = ((now, ()), c, b, q, page0, ()) ∧ waitB q now = true) (fun y hy => ?_) (fun J hJ => ?_)
  · obtain ⟨rfl, hw⟩ := hy
    dsimp only
    rw [if_pos hw] at he
    refine Ok.oe (step29_is h hn hb hq) (Ok.ite (fun h1 => Ok.s ?_) (fun h1 => ?_))
    · rw [if_pos h1] at he; exact he
    · rw [if_neg h1] at he
      have hd := waitB_due hw
      have hst : stepV c b q = (stepQ c b q, 0) := by
        revert h1
        unfold stepV
        split
        · simp
        · split
          · simp
          · split
            · simp
            · intro _; rfl
      have hl := step_left (c := c) (b := b) hd.1
      rw [hst] at he ⊢
      refine hK (leftV b (stepQ c b q)) _ hl ⟨stepQ c b q, k, rfl, ?_, by omega, he, rfl⟩
      have := hq.stepV (c := c) hb
      rw [hst] at this; exact this
  · refine Ok.cnd (fun h1 => Ok.ite (fun h2 => Ok.s ?_) (fun h2 => hJ _ ⟨rfl, by rw [hwv, h1]; simp; omega⟩)) (fun h1 => Ok.s ?_)
    · rw [if_neg (by rw [hwv, h1]; simp; omega)] at he; exact he
    · rw [if_neg (by rw [hwv, h1]; simp)] at he; exact he
end
end Go.Proofs.YtfhcigjkfelnfaaGreat
