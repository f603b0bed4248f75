/-
  The abstract machine, part D: a region that draws its order. No project text.
-/
import Derived.Test.YtbcginibldjnaaaGreatAmC
set_option linter.unusedSimpArgs false
set_option linter.unusedVariables false
namespace Go.Proofs.YtbcginibldjnaaaGreat.AM
open Go

def noRow : Row := (none, ⟨[], [], .any, [], []⟩)

def innerOK (i : Nat) (x : Row) : Nat → List (Row × Nat) → Bool
  | _, [] => true
  | j, (y, m) :: r => (m.testBit i || apartB x y) && innerOK i x (j + 1) r
def pairsOK : Nat → List (Row × Nat) → Bool
  | _, [] => true
  | i, (x, _) :: r => innerOK i x (i + 1) r && pairsOK (i + 1) r

def newsOK (ts : List (Nat × AV)) (hs : List (Name × AO)) : List Row → List Row → Bool
  | [], _ => true
  | y :: r, past => y.2.nw.all (fun n => past.all (fun x => !x.2.has n) && freeIn n ts hs && (keys y.2.upd).contains n) && newsOK ts hs r (past ++ [y])

def edgesOK : Nat → List Oper → Bool
  | _, [] => true
  | i, o :: r => o.after.toList.all (fun e => !Region.binds .any e || Nat.blt e.on i) && edgesOK (i + 1) r

def indep (ops : Array Oper) (L : List Row) (ts : List (Nat × AV)) (hs : List (Name × AO)) : Bool :=
  edgesOK 0 ops.toList && pairsOK 0 (L.zip (masks ops.toList [])) && newsOK ts hs L []

theorem innerOK_get {i : Nat} {x : Row} : ∀ {j : Nat} {l : List (Row × Nat)}, innerOK i x j l = true → ∀ (k : Nat) (y : Row) (m : Nat), l[k]? = some (y, m) → m.testBit i = true ∨ Apart x y
  | _, [], _, k, y, m, hk => by simp at hk
  | j, (y0, m0) :: r, h, k, y, m, hk => by
    simp only [innerOK, Bool.and_eq_true, Bool.or_eq_true] at h
    cases k with
    | zero => simp at hk; obtain ⟨rfl, rfl⟩ := hk; exact h.1.imp id apart_of
    | succ k => exact innerOK_get h.2 k y m (by simpa using hk)
theorem pairsOK_get : ∀ {i0 : Nat} {l : List (Row × Nat)}, pairsOK i0 l = true → ∀ (i j : Nat) (x : Row) (mx : Nat) (y : Row) (m : Nat), i < j → l[i]? = some (x, mx) → l[j]? = some (y, m) → m.testBit (i0 + i) = true ∨ Apart x y
  | _, [], _, i, j, x, mx, y, m, _, hi, _ => by simp at hi
  | i0, (x0, m0) :: r, h, i, j, x, mx, y, m, hij, hi, hj => by
    simp only [pairsOK, Bool.and_eq_true] at h
    cases j with
    | zero => omega
    | succ j =>
      cases i with
      | zero =>
        simp at hi; obtain ⟨rfl, rfl⟩ := hi
        exact innerOK_get h.1 j y m (by simpa using hj)
      | succ i =>
        have := pairsOK_get h.2 i j x mx y m (by omega) (by simpa using hi) (by simpa using hj)
        rwa [show i0 + (i + 1) = i0 + 1 + i by omega]
theorem newsOK_get {ts : List (Nat × AV)} {hs : List (Name × AO)} : ∀ {L past : List Row}, newsOK ts hs L past = true → ∀ i y, L[i]? = some y → ∀ n ∈ y.2.nw,
    (∀ x ∈ past ++ L.take i, x.2.has n = false) ∧ freeIn n ts hs = true ∧ n ∈ keys y.2.upd
  | [], _, _, i, y, hi, _, _ => by simp at hi
  | y0 :: r, past, h, i, y, hi, n, hn => by
    simp only [newsOK, Bool.and_eq_true, List.all_eq_true] at h
    cases i with
    | zero =>
      simp at hi; subst hi
      have := h.1 n hn
      simp only [Bool.and_eq_true, List.all_eq_true, List.contains_eq_mem, decide_eq_true_eq, Bool.not_eq_true'] at this
      simp only [List.take_zero, List.append_nil]
      exact ⟨this.1.1, this.1.2, this.2⟩
    | succ i =>
      have := newsOK_get h.2 i y (by simpa using hi) n hn
      simpa [List.append_assoc] using this
theorem edgesOK_get : ∀ {i0 : Nat} {l : List Oper}, edgesOK i0 l = true → ∀ i o, l[i]? = some o → ∀ e ∈ o.after.toList, Region.binds .any e = true → e.on < i0 + i
  | _, [], _, i, o, hi, _, _, _ => by simp at hi
  | i0, o0 :: r, h, i, o, hi, e, he, hb => by
    simp only [edgesOK, Bool.and_eq_true, List.all_eq_true] at h
    cases i with
    | zero =>
      simp at hi; subst hi
      have := h.1 e he
      simp only [hb, Bool.not_true, Bool.false_or] at this
      have h2 : e.on < i0 := Nat.le_of_ble_eq_true this
      omega
    | succ i =>
      have := edgesOK_get h.2 i o (by simpa using hi) e he hb
      omega

theorem stepsOK_get {P : Program} {ops : Array Oper} : ∀ {i0 : Nat} {L : List Row}, StepsOK P ops i0 L → (∀ i y, L[i]? = some y → StepOK P ops (i0 + i) y.1 y.2) ∧ ops.size = i0 + L.length
  | i0, [], h => by simp only [StepsOK] at h; exact ⟨fun i y hi => by simp at hi, by simp [h]⟩
  | i0, (d, e) :: r, h => by
    simp only [StepsOK] at h
    obtain ⟨g1, g2⟩ := stepsOK_get h.2
    refine ⟨fun i y hi => ?_, by simp; omega⟩
    cases i with
    | zero => simp at hi; subst hi; simpa using h.1
    | succ i => have := g1 i y (by simpa using hi); rwa [show i0 + (i + 1) = i0 + 1 + i by omega]

def rowAt (L : List Row) (i : Nat) : Row := L.getD i noRow
def allRun (L : List Row) (s : AS) : AS := L.foldl (fun s r => s.run r.1 r.2) s

theorem got_get {n : Nat} : ∀ {L : List Row} {ts : List (Nat × AV)} {hs : List (Name × AO)}, (got n L ts hs).1 = wantS L → (got n L ts hs).2.1 = wantH L → (got n L ts hs).2.2.1 = true →
    (∀ i y, L[i]? = some y → (∀ t x, (t, x) ∈ y.2.rd → (allRun (L.take i) (mk ts hs)).slot t = some x) ∧ (∀ m o, (m, o) ∈ y.2.hp → (allRun (L.take i) (mk ts hs)).heap m = some o) ∧ (∀ d, y.1 = some d → d < n) ∧ ∀ m, m ∈ y.2.nw → (allRun (L.take i) (mk ts hs)).heap m = none) ∧
    allRun L (mk ts hs) = mk (got n L ts hs).2.2.2.1 (got n L ts hs).2.2.2.2
  | [], ts, hs, _, _, _ => ⟨fun i y hi => by simp at hi, rfl⟩
  | (d, e) :: r, ts, hs, h1, h2, h3 => by
    have hl := got_len n r (putT ts d e) (e.upd ++ hs)
    simp only [got, wantS, wantH] at h1 h2 h3 ⊢
    obtain ⟨h1a, h1b⟩ := append_split h1 (by simp)
    obtain ⟨h2a, h2b⟩ := append_split h2 (by simp)
    simp only [Bool.and_eq_true] at h3
    obtain ⟨g1, g2⟩ := got_get h1b h2b h3.2
    refine ⟨fun i y hi => ?_, ?_⟩
    · cases i with
      | zero =>
        simp at hi; subst hi
        simp only [List.take_zero, allRun, List.foldl_nil]
        refine ⟨fun t x hx => map_eq_all h1a _ hx, fun m o hm => map_eq_all h2a _ hm, fun d' hd' => ?_, fun m hm => ?_⟩
        · have h4 := h3.1.1
          rw [show d = some d' from hd'] at h4
          exact Nat.le_of_ble_eq_true h4
        · have h4 := h3.1.2
          simp only [newOK, List.all_eq_true, Bool.and_eq_true, Option.isNone_iff_eq_none] at h4
          exact (h4 m hm).1.1
      | succ i =>
        have := g1 i y (by simpa using hi)
        simp only [List.take_succ_cons, allRun, List.foldl_cons, mk_run] at this ⊢
        exact this
    · simp only [allRun, List.foldl_cons, mk_run] at g2 ⊢
      exact g2

theorem RD_all {L : List Row} {s : AS} : ∀ (k : Nat), k ≤ L.length → RD (rowAt L) (fun _ => true) s k = allRun (L.take k) s
  | 0, _ => by simp [RD, allRun]
  | k + 1, hk => by
    have ih := RD_all (L := L) (s := s) k (by omega)
    have hlt : k < L.length := by omega
    simp only [RD, if_true, ih]
    rw [List.take_succ_eq_append_getElem hlt]
    have e : rowAt L k = L[k] := by rw [rowAt, List.getD_eq_getElem?_getD, List.getElem?_eq_getElem hlt]; rfl
    rw [e]
    simp only [allRun, List.foldl_append, List.foldl_cons, List.foldl_nil]

def cnt (f : Nat → Bool) : Nat → Nat
  | 0 => 0
  | k + 1 => (if f k then 1 else 0) + cnt f k
theorem cnt_le {f g : Nat → Bool} (h : ∀ i, g i = true → f i = true) : ∀ k, cnt g k ≤ cnt f k
  | 0 => Nat.le_refl _
  | k + 1 => by
    have := cnt_le h k
    simp only [cnt]
    have h2 := h k
    cases hg : g k <;> cases hf : f k <;> simp_all <;> omega
theorem cnt_lt {f g : Nat → Bool} (h : ∀ i, g i = true → f i = true) {i : Nat} (hf : f i = true) (hg : g i = false) : ∀ k, i < k → cnt g k < cnt f k
  | 0, hk => by omega
  | k + 1, hk => by
    simp only [cnt]
    have h1 := cnt_le h k
    by_cases e : i = k
    · subst e; simp [hf, hg]; omega
    · have := cnt_lt h hf hg k (by omega)
      have h2 := h k
      cases hg' : g k <;> cases hf' : f k <;> simp_all <;> omega
theorem cnt_zero {f : Nat → Bool} : ∀ k, cnt f k = 0 → ∀ i, i < k → f i = false
  | 0, _, i, hi => by omega
  | k + 1, h, i, hi => by
    simp only [cnt] at h
    by_cases e : i = k
    · subst e; cases hf : f i <;> simp_all
    · exact cnt_zero k (by omega) i (by omega)

section
variable {P : Program} {ops : Array Oper} {Γ : Ctx} {n : Nat} {L : List Row} {ts : List (Nat × AV)} {hs : List (Name × AO)}

theorem keys_of_mem {α : Type} {l : List (Nat × α)} {k : Nat} {x : α} (h : (k, x) ∈ l) : k ∈ keys l := List.mem_map.2 ⟨_, h, rfl⟩
theorem keys_of_look {α : Type} {l : List (Nat × α)} {k : Nat} (h : look k l ≠ none) : k ∈ keys l := by
  rcases Classical.em (k ∈ keys l) with h' | h'
  · exact h'
  · exact absurd (look_none h') h

theorem zip_get {α β : Type} {l : List α} {l' : List β} {i : Nat} {x : α} {y : β} (h : l[i]? = some x) (h' : l'[i]? = some y) : (l.zip l')[i]? = some (x, y) := by
  rw [List.getElem?_zip_eq_some]; exact ⟨h, h'⟩

theorem masks_len : ∀ (l : List Oper) (acc : List Nat), (masks l acc).length = acc.length + l.length
  | [], acc => by simp [masks]
  | o :: r, acc => by simp only [masks]; rw [masks_len r]; simp; omega

theorem any_order (hn : Γ.n = n) (hst : StepsOK P ops 0 L) (h1 : (got n L ts hs).1 = wantS L) (h2 : (got n L ts hs).2.1 = wantH L) (h3 : (got n L ts hs).2.2.1 = true)
    (hind : indep ops L ts hs = true) {Q : Exit → Act → World → Prop}
    (hQ : ∀ ρ' M' a' w', Sim Γ ρ' M' (mk (got n L ts hs).2.2.2.1 (got n L ts hs).2.2.2.2) a' w' → Q .normal a' w') :
    ∀ (fuel : Nat) (listed : Array Bool) (a : Act) (w : World) (ρ : Name → Loc) (M : Nat → Prop), listed.size = ops.size →
      (∀ i o, ops[i]? = some o → listed.getD i false = true → ∀ e ∈ o.after.toList, Region.binds .any e = true → listed.getD e.on false = true) →
      cnt (fun i => !listed.getD i false) ops.size ≤ fuel →
      Sim Γ ρ M (RD (rowAt L) (fun i => listed.getD i false) (mk ts hs) L.length) a w → wpAny P .any ops Q fuel listed a w := by
  obtain ⟨hsteps, hsize⟩ := stepsOK_get hst
  simp only [Nat.zero_add] at hsize
  obtain ⟨hgot, hend⟩ := got_get h1 h2 h3
  simp only [indep, Bool.and_eq_true] at hind
  obtain ⟨⟨hedge, hpair⟩, hnews⟩ := hind
  have hedge' := fun i o (hi : ops[i]? = some o) => by simpa using edgesOK_get hedge i o (by simpa using hi)
  have hallL : RD (rowAt L) (fun _ => true) (mk ts hs) L.length = allRun L (mk ts hs) := by
    rw [RD_all (L := L) (s := mk ts hs) L.length (Nat.le_refl _), List.take_length]
  -- everything listed: the text's end
  have hfin : ∀ (listed : Array Bool) a w ρ M, (∀ i, i < ops.size → listed.getD i false = true) →
      Sim Γ ρ M (RD (rowAt L) (fun i => listed.getD i false) (mk ts hs) L.length) a w → Q .normal a w := by
    intro listed a w ρ M hall hsim
    refine hQ ρ M a w (hsim.congr (fun t => ?_) (fun m => ?_))
    · rw [← hend, ← hallL]
      exact RD_slot_same _ (fun j hj _ => by rw [hall j (by omega)])
    · rw [← hend, ← hallL]
      exact RD_heap_same _ (fun j hj _ => by rw [hall j (by omega)])
  -- nothing ready: everything listed
  have hnone : ∀ listed : Array Bool, listed.size = ops.size → Region.ready .any ops listed = [] → ∀ i, i < ops.size → listed.getD i false = true := by
    intro listed hls hr i
    induction i using Nat.strongRecOn with
    | _ i ih =>
      intro hi
      cases hl : listed.getD i false with
      | true => rfl
      | false =>
        exfalso
        have hmem : i ∈ Region.ready .any ops listed := by
          unfold Region.ready
          simp only [List.mem_filter, List.mem_range]
          refine ⟨hi, ?_⟩
          have hl2 : listed.getD i true = false := by
            have hi' : i < listed.size := by omega
            simp [Array.getD, hi'] at hl ⊢
            exact hl
          rw [hl2]
          simp only [Bool.not_false, Bool.true_and, Array.getElem?_eq_getElem hi, Option.map_some, Option.getD_some]
          rw [Array.all_eq_true']
          intro e he
          cases hb : Region.binds .any e with
          | false => simp
          | true =>
            have := hedge' i ops[i] (Array.getElem?_eq_getElem hi) e he hb
            simp only [Bool.not_true, Bool.false_or]
            exact ih e.on this (by omega)
        rw [hr] at hmem
        simp at hmem
  intro fuel
  induction fuel with
  | zero =>
    intro listed a w ρ M hls hdown hcnt hsim
    have hall : ∀ i, i < ops.size → listed.getD i false = true := fun i hi => by
      have := cnt_zero _ (Nat.le_zero.1 hcnt) i hi
      simpa using this
    refine ⟨?_, hfin listed a w ρ M hall hsim⟩
    unfold Region.ready
    rw [List.filter_eq_nil_iff]
    intro i hi
    have hi' := List.mem_range.1 hi
    have h5 := hall i hi'
    have : listed.getD i true = true := by
      have hi2 : i < listed.size := by omega
      simp [Array.getD, hi2] at h5 ⊢
      exact h5
    simp [this]
  | succ fuel ih =>
    intro listed a w ρ M hls hdown hcnt hsim
    refine ⟨fun hr => hfin listed a w ρ M (hnone listed hls hr) hsim, fun i hi => ?_⟩
    unfold Region.ready at hi
    simp only [List.mem_filter, List.mem_range] at hi
    obtain ⟨hilt, hi2⟩ := hi
    have hio := Array.getElem?_eq_getElem hilt
    simp only [Bool.and_eq_true, Bool.not_eq_true', hio, Option.map_some, Option.getD_some] at hi2
    obtain ⟨hl1, hready⟩ := hi2
    have hnl : listed.getD i false = false := by
      have hi' : i < listed.size := by omega
      simp [Array.getD, hi'] at hl1 ⊢
      exact hl1
    rw [Array.all_eq_true'] at hready
    have hiL : i < L.length := by omega
    have hLi : L[i]? = some (rowAt L i) := by rw [rowAt, List.getD_eq_getElem?_getD, List.getElem?_eq_getElem hiL]; rfl
    have hLj : ∀ j, j < L.length → L[j]? = some (rowAt L j) := fun j hj => by rw [rowAt, List.getD_eq_getElem?_getD, List.getElem?_eq_getElem hj]; rfl
    -- who comes before i is listed
    let D' : Nat → Bool := fun j => listed.getD j false || decide (j = i)
    have hmask : ∀ k j, D' k = true → ((masks ops.toList []).getD k 0).testBit j = true → D' j = true := by
      refine masks_sound ops.toList [] (fun k o ho hD e he hb => ?_) (fun k j _ hj => by simp at hj)
      simp only [List.length_nil, Nat.zero_add] at hD
      have ho' : ops[k]? = some o := by simpa using ho
      by_cases e' : k = i
      · subst e'
        rw [hio] at ho'; cases ho'
        have := hready e (by simpa using he)
        simp only [hb, Bool.not_true, Bool.false_or] at this
        show (listed.getD e.on false || decide (e.on = _)) = true
        rw [this]; rfl
      · have : listed.getD k false = true := by simpa [D', e'] using hD
        show (listed.getD e.on false || decide (e.on = i)) = true
        rw [hdown k o ho' this e he hb]; rfl
    have hmask0 : ∀ k j, listed.getD k false = true → ((masks ops.toList []).getD k 0).testBit j = true → listed.getD j false = true := by
      refine masks_sound ops.toList [] (fun k o ho hD e he hb => ?_) (fun k j _ hj => by simp at hj)
      simp only [List.length_nil, Nat.zero_add] at hD
      exact hdown k o (by simpa using ho) hD e he hb
    have hord : ∀ j, j < L.length → j ≠ i → (j < i ∧ listed.getD j false = true) ∨ (i < j ∧ listed.getD j false = false) ∨ (Apart (rowAt L i) (rowAt L j) ∧ i < j) ∨ (Apart (rowAt L j) (rowAt L i) ∧ j < i) := by
      intro j hj hji
      have hm : ∀ k, k < L.length → (masks ops.toList [])[k]? = some ((masks ops.toList []).getD k 0) := fun k hk => by
        have : k < (masks ops.toList []).length := by rw [masks_len]; simp; omega
        rw [List.getD_eq_getElem?_getD, List.getElem?_eq_getElem this]; rfl
      rcases Nat.lt_or_gt_of_ne hji with hlt | hgt
      · rcases pairsOK_get hpair j i _ _ _ _ hlt (zip_get (hLj j hj) (hm j hj)) (zip_get hLi (hm i hiL)) with hb | hb
        · have := hmask i j (by simp [D']) (by simpa using hb)
          simp only [D', hji, decide_false, Bool.or_false] at this
          exact .inl ⟨hlt, this⟩
        · exact .inr (.inr (.inr ⟨hb, hlt⟩))
      · rcases pairsOK_get hpair i j _ _ _ _ hgt (zip_get hLi (hm i hiL)) (zip_get (hLj j hj) (hm j hj)) with hb | hb
        · refine .inr (.inl ⟨hgt, ?_⟩)
          cases hlj : listed.getD j false with
          | false => rfl
          | true =>
            have := hmask0 j i hlj (by simpa using hb)
            rw [hnl] at this; simp at this
        · exact .inr (.inr (.inl ⟨hb, hgt⟩))
    obtain ⟨hrd, hhp, hdst, hnw⟩ := hgot i _ hLi
    have hRDi := RD_all (L := L) (s := mk ts hs) i (by omega)
    have hholds : (RD (rowAt L) (fun i => listed.getD i false) (mk ts hs) L.length).holds (rowAt L i).2 := by
      refine ⟨fun t x hx => ?_, fun m o hm => ?_, fun m hm => ?_⟩
      · have hk := keys_of_mem hx
        rw [RD_slot_cut (i := i) L.length (by omega) (fun j hj1 hj2 hw => ?_), RD_slot_same (D' := fun _ => true) i (fun j hj hw => ?_), hRDi]
        · exact hrd t x hx
        · rcases hord j (by omega) (by omega) with h | h | h | h
          · exact h.2
          · omega
          · omega
          · exact absurd hk (h.1.d1 t hw)
        · by_cases e : j = i
          · subst e; exact hnl
          · rcases hord j hj2 e with h | h | h | h
            · omega
            · exact h.2
            · exact absurd hk (h.1.d2 t hw)
            · omega
      · have hk := keys_of_mem hm
        rw [RD_heap_cut (i := i) L.length (by omega) (fun j hj1 hj2 hw => ?_), RD_heap_same (D' := fun _ => true) i (fun j hj hw => ?_), hRDi]
        · exact hhp m o hm
        · rcases hord j (by omega) (by omega) with h | h | h | h
          · exact h.2
          · omega
          · omega
          · exact absurd hk (h.1.h1 m (keys_of_look hw))
        · by_cases e : j = i
          · subst e; exact hnl
          · rcases hord j hj2 e with h | h | h | h
            · omega
            · exact h.2
            · exact absurd hk (h.1.h2 m (keys_of_look hw))
            · omega
      · obtain ⟨hpast, hfree, hk⟩ := newsOK_get hnews i _ hLi m hm
        refine ⟨?_, ?_⟩
        · rw [RD_heap_cut (i := i) L.length (by omega) (fun j hj1 hj2 hw => ?_), RD_heap_same (D' := fun _ => true) i (fun j hj hw => ?_), hRDi]
          · exact hnw m hm
          · rcases hord j (by omega) (by omega) with h | h | h | h
            · exact h.2
            · omega
            · omega
            · exact absurd hk (h.1.hh m (keys_of_look hw))
          · by_cases e : j = i
            · subst e; exact hnl
            · rcases hord j hj2 e with h | h | h | h
              · omega
              · exact h.2
              · exact absurd (keys_of_look hw) (h.1.hh m hk)
              · omega
        · skip
          have hf := free_of hfree
          have hE : ∀ j, j < L.length → listed.getD j false = true → (rowAt L j).2.has m = false := by
            intro j hj hlj
            have hji : j ≠ i := fun e => by subst e; rw [hnl] at hlj; simp at hlj
            rcases Nat.lt_or_gt_of_ne hji with hlt | hgt
            · refine hpast _ ?_
              simp only [List.nil_append]
              refine List.mem_iff_getElem.2 ⟨j, by simp; omega, ?_⟩
              rw [List.getElem_take, rowAt, List.getD_eq_getElem?_getD, List.getElem?_eq_getElem (by omega)]; rfl
            · rcases hord j hj hji with h | h | h | h
              · omega
              · rw [h.2] at hlj; simp at hlj
              · exact h.1.c1 m hm
              · omega
          refine ⟨fun t x ht => ?_, fun m' o' hm' => ?_⟩
          · rcases RD_slot_from _ ht with h | ⟨j, hj, hlj, rfl⟩
            · exact hf.1 t x h
            · have := hE j hj hlj
              simp only [Eff.has, Bool.or_eq_false_iff] at this
              exact this.1
          · rcases RD_heap_from _ hm' with h | ⟨j, hj, hlj, h⟩
            · exact hf.2 m' o' h
            · have := hE j hj hlj
              simp only [Eff.has, Bool.or_eq_false_iff] at this
              have h8 := this.2
              rw [List.any_eq_false] at h8
              have := h8 _ (look_mem h)
              simpa using this
    have hstep := hsteps i _ hLi
    rw [Nat.zero_add] at hstep
    refine hstep Γ ρ M _ a w _ Q hsim hholds (fun d hd => by rw [hn]; exact hdst d hd) (fun ρ' M' a' w' hsim' => ?_)
    have hget : ∀ j, (listed.setIfInBounds i true).getD j false = D' j := by
      intro j
      have hi' : i < listed.size := by omega
      by_cases e : j = i
      · subst e; simp [D', Array.getD, hi']
      · simp only [D', e, decide_false, Bool.or_false, Array.getD_eq_getD_getElem?]
        rw [Array.getElem?_setIfInBounds_ne (fun h => e h.symm)]
    refine ih _ a' w' ρ' M' (by simpa using hls) (fun k o ho hk e he hb => ?_) ?_ (hsim'.congr (fun t => ?_) (fun m => ?_))
    · rw [hget] at hk ⊢
      by_cases e' : k = i
      · subst e'
        rw [hio] at ho; cases ho
        have := hready e (by simpa using he)
        simp only [hb, Bool.not_true, Bool.false_or] at this
        show (listed.getD e.on false || decide (e.on = _)) = true
        rw [this]; rfl
      · have : listed.getD k false = true := by simpa [D', e'] using hk
        show (listed.getD e.on false || decide (e.on = i)) = true
        rw [hdown k o ho this e he hb]; rfl
    · have : cnt (fun j => !(listed.setIfInBounds i true).getD j false) ops.size < cnt (fun j => !listed.getD j false) ops.size := by
        refine cnt_lt (i := i) (fun j hj => ?_) (by simp [hnl]) (by simp [hget, D']) _ hilt
        rw [hget] at hj
        simp only [D', Bool.not_or, Bool.and_eq_true] at hj
        exact hj.1
      omega
    · -- the slots
      have hrun := run_slot (RD (rowAt L) (fun i => listed.getD i false) (mk ts hs) L.length) (rowAt L i) t
      rw [hrun]
      have hD : (fun j => (listed.setIfInBounds i true).getD j false) = D' := funext hget
      rw [hD]
      by_cases hw : (rowAt L i).1 = some t
      · rw [if_pos hw, RD_slot_cut (i := i + 1) L.length (by omega) (fun j hj1 hj2 hwj => ?_)]
        · simp only [RD, D', decide_true, Bool.or_true, if_true]
          rw [run_slot, if_pos hw]
        · rcases hord j hj2 (by omega) with h | h | h | h
          · omega
          · simp only [D', h.2, Bool.false_or, decide_eq_false_iff_not]; omega
          · exact absurd hwj (h.1.dd t hw)
          · omega
      · rw [if_neg hw]
        refine RD_slot_same _ (fun j hj hwj => ?_)
        by_cases e : j = i
        · subst e; exact absurd hwj hw
        · simp [D', e]
    · have hrun := run_heap (RD (rowAt L) (fun i => listed.getD i false) (mk ts hs) L.length) (rowAt L i) m
      rw [hrun]
      have hD : (fun j => (listed.setIfInBounds i true).getD j false) = D' := funext hget
      rw [hD]
      cases hw : look m (rowAt L i).2.upd with
      | some o =>
        rw [RD_heap_cut (i := i + 1) L.length (by omega) (fun j hj1 hj2 hwj => ?_)]
        · simp only [RD, D', decide_true, Bool.or_true, if_true]
          rw [run_heap, hw]
        · rcases hord j hj2 (by omega) with h | h | h | h
          · omega
          · simp only [D', h.2, Bool.false_or, decide_eq_false_iff_not]; omega
          · exact absurd (keys_of_look hwj) (h.1.hh m (keys_of_look (by rw [hw]; simp)))
          · omega
      | none =>
        refine RD_heap_same _ (fun j hj hwj => ?_)
        by_cases e : j = i
        · subst e; exact absurd hw hwj
        · simp [D', e]
end

theorem Sim.drew {Γ : Ctx} {ρ : Name → Loc} {M : Nat → Prop} {s : AS} {a : Act} {w : World} (h : Sim Γ ρ M s a w) : Sim Γ ρ M s a { w with drawn := w.drawn + 1 } :=
  h.world ⟨Nat.le_refl _, fun _ _ _ => rfl, rfl, rfl⟩

/-- A region that draws its order. -/
theorem AWp.draw {P : Program} {Γ : Ctx} {id : Nat} {ops : Array Oper} {ts ts' : List (Nat × AV)} {hs hs' : List (Name × AO)} {Q : Exit → AS → Prop} {n : Nat} {names : List Name} (hn : Γ.n = n) (hk : Γ.names = names)
    (hmode : (P.follows .mixedOrders || !Region.departs ops) = true)
    (L : List Row) (hst : StepsOK P ops 0 L) (hf : fits n names L ts hs ts' hs') (hind : indep ops L ts hs = true) (hQ : Q .normal (mk ts' hs')) : AWp P Γ (.region id ops true) (mk ts hs) Q := by
  intro ρ M a w hsim
  obtain ⟨h1, h2, h3, h4, h5, h6⟩ := fits_split hf
  refine wp_region_draw fun t => ?_
  have hsch : Region.schedule (P.follows .mixedOrders) ops t = Region.linearise .any ops t := by
    unfold Region.schedule; rw [hmode]; rfl
  rw [hsch]
  refine wpAny_sound ops.size t _ a _ ?_
  refine any_order hn hst h1 h2 h3 hind (Q := fun e a' w' => ∃ s' ρ' M', Q e s' ∧ Sim Γ ρ' M' s' a' w') (fun ρ' M' a' w' hs => ⟨_, ρ', M', hQ, hs.forget h4 h5 (by rw [hk]; exact h6)⟩)
    ops.size (Array.replicate ops.size false) a _ ρ M (by simp) (fun i o hi hl => by simp [Array.getD_eq_getD_getElem?, Array.getElem?_replicate] at hl; split at hl <;> simp at hl) ?_ ?_
  · have : ∀ (f : Nat → Bool) k, cnt f k ≤ k := by
      intro f k
      induction k with
      | zero => exact Nat.le_refl _
      | succ k ih => simp only [cnt]; split <;> omega
    exact this _ _
  · refine hsim.drew.congr (fun t => ?_) (fun m => ?_)
    · have := RD_slot_cut (E := fun i => rowAt L i) (D := fun i => (Array.replicate ops.size false).getD i false) (s := mk ts hs) (t := t) (i := 0) L.length (by omega) (fun j _ _ _ => by
        simp only [Array.getD_eq_getD_getElem?, Array.getElem?_replicate]; split <;> rfl)
      exact this
    · have := RD_heap_cut (E := fun i => rowAt L i) (D := fun i => (Array.replicate ops.size false).getD i false) (s := mk ts hs) (m := m) (i := 0) L.length (by omega) (fun j _ _ _ => by
        simp only [Array.getD_eq_getD_getElem?, Array.getElem?_replicate]; split <;> rfl)
      exact this

end Go.Proofs.YtbcginibldjnaaaGreat.AM
