/-
  Pages on their way: what the program's answers compute.
-/
import Derived.Test.YtfhcigjkfelnfaaGreatQRowEscalateDeclinesF
import Derived.Test.YtfhcigjkfelnfaaGreatQRowEscalateDeclinesE
set_option maxRecDepth 100000
set_option linter.unusedVariables false
set_option linter.unusedSimpArgs false
namespace Go.Proofs.YtfhcigjkfelnfaaGreat
open Go AM
section
variable {n : Nat} {c : D.Config} {b : D.Book} {p q : D.Page} {now : Int} {a : D.Answer}
theorem due0_is : escalate_Due_0c11c12c13 1000 p = some (dueV p) := by
  unfold escalate_Due_0c11c12c13
  simp only [sameC_p]
  exact due_is
theorem waits0_is {t : Int} : escalate_waits_0c11c12c13 1000 p t = some (waitB p t) := by
  unfold escalate_waits_0c11c12c13 waitB
  simp only [sameC_p]
  rw [due0_is, optc_s]
  obtain ⟨a, d⟩ := dueV p
  cases d <;> by_cases h : a ≤ t <;> simp [AM.cnd, h]
theorem called_is (h : PageLen p) : escalate_Called 1000 p = some (calledV p) := by
  have h1 := h.st
  refine Ok.eq ?_
  unfold escalate_Called calledV
  refine Ok.ite (fun h0 => Ok.s ?_) (fun h0 => ?_)
  · rw [if_pos (List.eq_nil_iff_length_eq_zero.2 (by omega))]
  · have hne : p.Starts ≠ [] := fun e => h0 (by rw [e]; rfl)
    have hpos := List.length_pos_iff.2 hne
    rw [show IntKind.wrap .i64 (((p.Starts.length : Nat) : Int) - 1) = ((p.Starts.length - 1 : Nat) : Int) by rw [wrap_id (by omega)]; omega]
    have hp := (h.pe _ (nth_mem (l := p.Starts) (i := p.Starts.length - 1) (by omega))).1
    refine Ok.atn (by omega) (Ok.oe (cloneI_is (by omega)) (Ok.s ?_))
    rw [if_neg hne]
theorem called0_is (h : PageLen p) : escalate_Called_0c11c12c13 1000 p = some (calledV p) := by
  have h1 := h.st
  refine Ok.eq ?_
  unfold escalate_Called_0c11c12c13 calledV
  refine Ok.ite (fun h0 => Ok.sameC (Ok.sameC (Ok.sameC (Ok.s ?_)))) (fun h0 => ?_)
  · rw [if_pos (List.eq_nil_iff_length_eq_zero.2 (by omega))]
  · have hne : p.Starts ≠ [] := fun e => h0 (by rw [e]; rfl)
    have hpos := List.length_pos_iff.2 hne
    rw [show IntKind.wrap .i64 (((p.Starts.length : Nat) : Int) - 1) = ((p.Starts.length - 1 : Nat) : Int) by rw [wrap_id (by omega)]; omega]
    have hp := (h.pe _ (nth_mem (l := p.Starts) (i := p.Starts.length - 1) (by omega))).1
    refine Ok.natn (Ok.lt (by omega) (Ok.get (by omega) (Ok.oe (cloneI_is (by omega)) (Ok.sameC (Ok.sameC (Ok.sameC (Ok.s ?_)))))))
    rw [if_neg hne]
theorem called_len (h : PageLen p) : (calledV p).length ≤ 40 := by
  unfold calledV
  split
  · simp
  · rename_i hne
    have hpos := List.length_pos_iff.2 hne
    exact (h.pe _ (nth_mem (by omega))).1
theorem refused_is : escalate_refused_0c11c12c13 1000 p a = some (refusedV p a) := by
  refine Ok.eq ?_
  unfold escalate_refused_0c11c12c13
  refine Ok.join (fun y => y.1.1 = decide ((a.Kind = 3 ∧ p.Snoozes = 4) ∨ (a.Kind = 4 ∧ (p.Hands = 4 ∨ p.Starts.length = 200))) ∧ y.2 = (pgA p, a, p.Starts, p.Declined, p.Seen, ())) (fun y hy => ?_) (fun J hJ => ?_)
  · obtain ⟨⟨full, ⟨⟩⟩, r⟩ := y
    obtain ⟨h1, h2⟩ := hy
    dsimp only at h1 h2
    subst h2
    dsimp only [pgA]
    refine Ok.j (Ok.ite (fun g1 => Ok.sameC (Ok.sameC (Ok.sameC (Ok.s ?_)))) (fun g1 => ?_))
    · unfold refusedV; rw [if_pos (.inl g1)]
    refine Ok.oe (waits0_is (p := p)) (Ok.cnd (fun g2 => Ok.sameC (Ok.sameC (Ok.sameC (Ok.s ?_)))) (fun g2 => ?_))
    · unfold refusedV; rw [if_pos (.inr g2)]
    unfold refusedV
    rw [if_neg (by rw [g2]; simp; omega)]
    refine Ok.join (fun y => y.1.1 = full ∧ y.1.2.1 = decide (p.State = 4 ∨ (p.State = 3 ∧ a.Kind ≠ 5) ∨ (p.State = 1 ∧ a.Kind = 2)) ∧ y.2 = (pgA p, p.Starts, p.Declined, p.Seen, ())) (fun y hy => ?_) (fun J hJ => ?_)
    · obtain ⟨⟨f2, s2, ⟨⟩⟩, r⟩ := y
      obtain ⟨k1, k2, k3⟩ := hy
      dsimp only at k1 k2 k3
      subst k3; subst k1
      dsimp only [pgA]
      refine Ok.cnd (fun g3 => Ok.sameC (Ok.sameC (Ok.sameC (Ok.s ?_)))) (fun g3 => ?_)
      · rw [k2] at g3; rw [if_pos (of_decide_eq_true g3)]
      · rw [k2] at g3; rw [if_neg (of_decide_eq_false g3)]
        refine Ok.ite (fun g4 => Ok.sameC (Ok.sameC (Ok.sameC (Ok.s ?_)))) (fun g4 => ?_)
        · rw [if_pos (.inl (by omega))]
        · refine Ok.cnd (fun g5 => Ok.sameC (Ok.sameC (Ok.sameC (Ok.s ?_)))) (fun g5 => Ok.sameC (Ok.sameC (Ok.sameC (Ok.s ?_))))
          · rw [h1] at g5; have := of_decide_eq_true g5; rw [if_pos (.inr this)]
          · rw [h1] at g5; have := of_decide_eq_false g5; rw [if_neg (by omega)]
    · refine Ok.ite (fun g3 => hJ _ ⟨rfl, ?_, rfl⟩) (fun g3 => Ok.ite (fun g4 => Ok.ite (fun g5 => hJ _ ⟨rfl, ?_, rfl⟩) (fun g5 => Ok.ite (fun g6 => Ok.ite (fun g7 => hJ _ ⟨rfl, ?_, rfl⟩) (fun g7 => hJ _ ⟨rfl, ?_, rfl⟩)) (fun g6 => hJ _ ⟨rfl, ?_, rfl⟩))) (fun g4 => Ok.ite (fun g6 => Ok.ite (fun g7 => hJ _ ⟨rfl, ?_, rfl⟩) (fun g7 => hJ _ ⟨rfl, ?_, rfl⟩)) (fun g6 => hJ _ ⟨rfl, ?_, rfl⟩)))
      all_goals (dsimp only; first | exact (decide_eq_true (by omega)).symm | exact (decide_eq_false (by omega)).symm | exact decide_eq_decide.2 (by omega))
  · refine Ok.ite (fun g1 => Ok.ite (fun g2 => hJ _ ⟨?_, rfl⟩) (fun g2 => Ok.ite (fun g3 => Ok.ite (fun g4 => hJ _ ⟨?_, rfl⟩) (fun g4 => Ok.ite (fun g5 => hJ _ ⟨?_, rfl⟩) (fun g5 => hJ _ ⟨?_, rfl⟩))) (fun g3 => hJ _ ⟨?_, rfl⟩)))
      (fun g1 => Ok.ite (fun g3 => Ok.ite (fun g4 => hJ _ ⟨?_, rfl⟩) (fun g4 => Ok.ite (fun g5 => hJ _ ⟨?_, rfl⟩) (fun g5 => hJ _ ⟨?_, rfl⟩))) (fun g3 => hJ _ ⟨?_, rfl⟩))
    all_goals (dsimp only; first | exact (decide_eq_true (by omega)).symm | exact (decide_eq_false (by omega)).symm)
theorem swap_perm {l : List Int} {j : Nat} (h1 : 1 ≤ j) (hj : j < l.length) : (swapL l j).Perm l := by
  unfold swapL
  have e1 : nth l j = l[j] := by simp [nth, List.getD_eq_getElem?_getD, List.getElem?_eq_getElem hj]
  have e2 : nth l (j - 1) = l[j - 1] := by simp [nth, List.getD_eq_getElem?_getD, List.getElem?_eq_getElem (show j - 1 < l.length by omega)]
  rw [e1, e2]
  exact List.set_set_perm hj (by omega)
theorem isort0_ok {l0 : List Int} (hs : l0.length ≤ 900) :
    Ok (slices_insertionSortOrdered_int_0 1000 l0 0 ((l0.length : Nat) : Int)) fun r => r.Perm l0 ∧ SortedTo r l0.length := by
  obtain ⟨m, hm⟩ : ∃ m, l0.length = m := ⟨_, rfl⟩
  rw [hm]
  rw [hm] at hs
  unfold slices_insertionSortOrdered_int_0
  refine Ok.loop (fun q x => ∃ i a, x = ((0, (m : Int), ((i : Nat) : Int), ()), a, ()) ∧ 1 ≤ i ∧ a.Perm l0 ∧ SortedTo a (min i m) ∧ q = m + 1 - i) (m := m) (by omega)
    ⟨1, l0, by rw [wrap_id (by omega)]; rfl, by omega, .refl _, fun a b h1 h2 => by omega, by omega⟩ ?_
  rintro q x ⟨i, a, rfl, h1, h2, h3, rfl⟩ K hK
  have hal := h2.length_eq
  dsimp only
  refine Ok.ite (fun hi => ?_) (fun hi => Ok.s ⟨h2, by rw [show min i m = m by omega] at h3; exact h3⟩)
  have hlt : i < m := by omega
  rw [show min i m = i by omega] at h3
  refine Ok.j ?_
  refine Ok.loop (fun q x => ∃ j a', x = ((0, (m : Int), ((i : Nat) : Int), ((j : Nat) : Int), ()), a', ()) ∧ j ≤ i ∧ a'.Perm l0 ∧ ButFor a' (i + 1) j ∧ q = j) (m := i) (by omega)
    ⟨i, a, rfl, by omega, h2, butfor_start h3, rfl⟩ ?_
  rintro q x ⟨j, a', rfl, g1, g2, g3, hqj⟩ K2 hK2
  have hal' := g2.length_eq
  dsimp only
  have fin : (j = 0 ∨ nth a' (j - 1) ≤ nth a' j) → Ok (K ((0, (m : Int), IntKind.wrap .i64 ((i : Int) + 1), ()), a', ())) fun r => r.Perm l0 ∧ SortedTo r m := fun he => by
    rw [wrap_succ (by omega)]
    exact hK (m + 1 - (i + 1)) _ (by omega) ⟨i + 1, a', rfl, by omega, g2, by rw [show min (i + 1) m = i + 1 by omega]; exact butfor_end g3 he, rfl⟩
  refine Ok.j (Ok.ite (fun hj => ?_) (fun hj => fin (.inl (by omega))))
  have hw : IntKind.wrap .i64 ((j : Int) - 1) = ((j - 1 : Nat) : Int) := by rw [wrap_id (by omega)]; omega
  rw [hw]
  refine Ok.natn (Ok.lt (by omega) (Ok.get (by omega) (Ok.natn (Ok.lt (by omega) (Ok.get (by omega) (Ok.oe less_is (Ok.ite (fun hless => ?_) (fun hless => fin (.inr (by omega))))))))))
  dsimp only
  rw [hw]
  refine Ok.natn (Ok.lt (by omega) (Ok.get (by omega) (Ok.natn (Ok.lt (by omega) (Ok.get (by omega) (Ok.natn (Ok.lt (by omega) (Ok.get (by omega) (Ok.natn (Ok.lt (by simp; omega) (Ok.get (by simp; omega) ?_)))))))))))
  have hsw : (a'.set j (nth a' (j - 1))).set (j - 1) (nth a' j) = swapL a' j := rfl
  rw [hsw]
  exact hK2 (j - 1) _ (by omega) ⟨j - 1, swapL a' j, rfl, by omega, (swap_perm (by omega) (by omega)).trans g2, butfor_step g3 (by omega) (by omega) (by omega) hless, rfl⟩
theorem sort0_ok {l0 : List Int} (hs : l0.length ≤ 12) :
    Ok (slices_Sort_int_0 1000 l0) fun r => r.Perm l0 ∧ SortedTo r l0.length := by
  unfold slices_Sort_int_0
  obtain ⟨bv, hb⟩ := Option.isSome_iff_exists.1 (bits_ok l0.length (by omega))
  refine Ok.oe hb (Ok.opt (P := fun r => r.Perm l0 ∧ SortedTo r l0.length) ?_ fun r hr => Ok.ck hr.1.length_eq (Ok.s hr))
  unfold slices_pdqsortOrdered_int_0
  refine Ok.loop (fun q x => x = ((0, ((l0.length : Nat) : Int), bv, true, true, ()), l0, ())) (m := 0) (by omega) rfl ?_
  rintro q x rfl K hK
  dsimp only
  refine Ok.p (by rw [wrap_id (by omega)]; omega) (Ok.opt (isort0_ok (by omega)) fun r hr => Ok.ck hr.1.length_eq (Ok.s hr))
theorem asc_sorted {l : List Int} (h : SortedTo l l.length) (hd : l.Nodup) : Asc l := by
  refine asc_of h fun k h1 h2 e => ?_
  have e1 : nth l (k - 1) = l[k - 1] := by simp [nth, List.getD_eq_getElem?_getD, List.getElem?_eq_getElem (show k - 1 < l.length by omega)]
  have e2 : nth l k = l[k] := by simp [nth, List.getD_eq_getElem?_getD, List.getElem?_eq_getElem h2]
  rw [e1, e2] at e
  have := (List.nodup_iff_pairwise_ne.1 hd)
  exact (List.pairwise_iff_getElem.1 this (k - 1) k (by omega) h2 (by omega)) e
theorem asc_nodup {l : List Int} (h : Asc l) : l.Nodup := List.Pairwise.imp (fun h => by omega) h
theorem sort_plus {l r : List Int} {x : Int} (hl : Asc l) (hx : l.contains x = false) (hp : r.Perm (l ++ [x])) (hs : SortedTo r r.length) : r = plusV l x := by
  have hnd : (l ++ [x]).Nodup := List.nodup_append.2 ⟨asc_nodup hl, by simp, fun y hy z hz e => by
    rw [List.mem_singleton.1 hz] at e
    subst e
    rw [List.contains_iff_mem.2 hy] at hx; simp at hx⟩
  refine asc_ext (asc_sorted hs (hp.nodup_iff.2 hnd)) (plusV_is hl).1 fun z => ?_
  rw [hp.mem_iff, (plusV_is hl).2]; simp
theorem decl1_is {x : Int} (h : p.Declined.length ≤ 40) : escalate_declined_1_b11_12_13 1000 x p = some (!p.Declined.contains x, p) := by
  unfold escalate_declined_1_b11_12_13
  rw [contains0_is (by omega), optc_s]
theorem containsD_is {l : List Int} (hl : l.length ≤ 900) (h : p.Declined.length ≤ 40) : slices_ContainsFunc_int_1Fescalate_declined_1b11_12_13 1000 l p = some (l.any fun z => !p.Declined.contains z, p) := by
  refine Ok.eq ?_
  unfold slices_ContainsFunc_int_1Fescalate_declined_1b11_12_13 slices_IndexFunc_int_1Fescalate_declined_1b11_12_13
  refine Ok.opt (P := fun (r : Int × D.Page) => decide (0 ≤ r.1) = (l.any fun z => !p.Declined.contains z) ∧ r.2 = p) ?_ fun ⟨r, p'⟩ ⟨e1, e2⟩ => Ok.s (by dsimp only at e1 e2; rw [e1, e2])
  refine Ok.scan2 l.length (fun i => (l, ((l.length : Nat) : Int), (i : Int), ())) (fun i => !p.Declined.contains (nth l i)) rfl (by omega) (fun i hi hq _ k => ?_) (fun i hi hq k hk => ?_) (fun hq k => ?_)
  · refine Ok.p (by omega) (Ok.atn hi (Ok.oe (decl1_is (p := p) h) (Ok.bt hq (Ok.s ⟨?_, rfl⟩))))
    rw [any_yes hi hq]; simp
  · refine Ok.p (by omega) (Ok.atn hi (Ok.oe (decl1_is (p := p) h) (Ok.bf hq ?_)))
    rw [wrap_succ (by omega)]; exact hk
  · refine Ok.n (by omega) (Ok.s ⟨?_, rfl⟩)
    rw [any_no hq]; rfl
theorem declQ_len (hs : setV p.Declined = true) (hd : p.Declined.length ≤ 11) : (declQ p a).length ≤ 40 := by
  unfold declQ
  split
  · have hde := setV_is.1 hs
    unfold plusV
    have h1 := List.length_filter_le (fun z => decide (z < a.Person)) p.Declined
    have h2 := List.length_filter_le (fun z => decide (a.Person < z)) p.Declined
    simp only [List.length_append, List.length_cons]; omega
  · omega
theorem declined_is (h : PageLen p) (hd : p.Declined.length ≤ 11) (hs : setV p.Declined = true) :
    escalate_declined_0c11c12c13 1000 p a = some { p with Declined := declQ p a, Due := if allDown p a = true ∧ p.State = 0 then a.At else p.Due } := by
  have hcl := called_len h
  refine Ok.eq ?_
  unfold escalate_declined_0c11c12c13
  refine Ok.oe (called0_is h) ?_
  refine Ok.join (fun y => y = ((calledV p, ()), pgA p, a, page0, p.Starts, declQ p a, p.Seen, ())) (fun y hy => ?_) (fun J hJ => ?_)
  · subst hy
    dsimp only [pgA]
    have hdl := declQ_len (a := a) hs hd
    refine Ok.j (Ok.ite (fun g1 => Ok.ite (fun g2 => ?_) (fun g2 => Ok.s ?_)) (fun g1 => Ok.s ?_))
    · refine Ok.oe (containsD_is (p := { p with Declined := declQ p a }) (by omega) hdl) (Ok.cnd (fun g3 => Ok.s ?_) (fun g3 => Ok.s ?_))
      · have : allDown p a = false := by
          unfold allDown
          rw [Bool.and_eq_false_iff]
          refine .inr ?_
          obtain ⟨z, hz1, hz2⟩ := List.any_eq_true.1 g3
          refine List.all_eq_false.2 ⟨z, hz1, ?_⟩
          simpa using hz2
        rw [this, if_neg (by simp)]
      · have : allDown p a = true := by
          unfold allDown
          rw [Bool.and_eq_true]
          refine ⟨decide_eq_true fun e => by rw [e] at g2; simp at g2, List.all_eq_true.2 fun z hz => ?_⟩
          have := List.any_eq_false.1 g3 z hz
          simpa using this
        rw [this, if_pos ⟨rfl, g1⟩]
    · have : allDown p a = false := by
        unfold allDown
        rw [decide_eq_false (fun hne => hne (List.eq_nil_iff_length_eq_zero.2 (by omega)))]; rfl
      rw [this, if_neg (by simp)]
    · rw [if_neg (fun hx => g1 hx.2)]
  · refine Ok.oe (contains_is (by omega)) (Ok.cnd (fun g1 => ?_) (fun g1 => ?_))
    · refine Ok.oe (contains0_is (by omega)) (Ok.cnd (fun g2 => ?_) (fun g2 => ?_))
      · refine hJ _ ?_
        have : declQ p a = p.Declined := by
          unfold declQ
          rw [if_pos g1]; exact plusV_old (setV_is.1 hs).1 (List.contains_iff_mem.1 g2)
        rw [this]; rfl
      · refine Ok.lec (by simp; omega) (Ok.opt (sort0_ok (by simp; omega)) fun r ⟨hr1, hr2⟩ => Ok.ck hr1.length_eq (hJ _ ?_))
        have : r = declQ p a := by
          unfold declQ
          rw [if_pos g1]
          exact sort_plus (setV_is.1 hs).1 g2 hr1 (by rw [hr1.length_eq]; exact hr2)
        rw [this]; rfl
    · refine hJ _ ?_
      have : declQ p a = p.Declined := by unfold declQ; rw [if_neg (by rw [g1]; simp)]
      rw [this]; rfl
theorem answer_is (hb : BookOK b) (h : PageLen p) (hd : p.Declined.length ≤ 11) : escalate_Answer 1000 c b p a = some (answerV b p a) := by
  have hse := h.se; have hst := h.st
  refine Ok.eq ?_
  unfold escalate_Answer
  refine Ok.join (fun y => y = ((), p, a, page0, ()) ∧ checkV b p = true ∧ validV a = true) (fun y hy => ?_) (fun J hJ => ?_)
  · obtain ⟨rfl, hc, hv⟩ := hy
    dsimp only
    unfold answerV
    rw [if_neg (by rw [hc, hv]; simp)]
    have hf := checkV_facts hc
    have hv' := hv
    unfold validV at hv'
    simp only [Bool.and_eq_true, inV_is] at hv'
    obtain ⟨⟨⟨⟨⟨v1, v2⟩, v3⟩, v4⟩, v5⟩, v6⟩ := hv'
    have hsn := hf.snoozes; have hha := hf.hands
    refine Ok.ite (fun g1 => Ok.s ?_) (fun g1 => ?_)
    · rw [if_pos g1]; rfl
    rw [if_neg g1]
    refine Ok.oe (copied_is h) (Ok.oe (contains0_is (by omega)) (Ok.cnd (fun g2 => Ok.s ?_) (fun g2 => ?_)))
    · rw [if_pos g2]
    rw [if_neg (by rw [g2]; simp)]
    refine Ok.oe refused_is (Ok.ite (fun g3 => Ok.s ?_) (fun g3 => ?_))
    · rw [if_pos g3]; rfl
    rw [if_neg g3]
    refine Ok.lec (by simp; omega) ?_
    refine Ok.join (fun y => y = ((), pgA p, a, page0, p.Starts, p.Declined, p.Seen ++ [a.ID], ()) ∧ ¬ (a.Kind = 1 ∧ p.State = 1)) (fun y hy => ?_) (fun J hJ => ?_)
    · obtain ⟨rfl, hn⟩ := hy
      dsimp only [pgA]
      unfold answerQ
      refine Ok.j (Ok.ite (fun k1 => Ok.s ?_) (fun k1 => Ok.ite (fun k2 => ?_) (fun k2 => Ok.ite (fun k3 => Ok.s ?_) (fun k3 => Ok.ite (fun k4 => Ok.lec (by simp; omega) (Ok.s ?_)) (fun k4 => Ok.ite (fun k5 => Ok.s ?_) (fun k5 => absurd v5 (by omega)))))))
      · rw [if_pos k1, if_neg (by omega)]
      · rw [if_neg k1, if_pos k2]
        have hp' : PageLen { p with Last := a.At, Seen := p.Seen ++ [a.ID] } := ⟨h.st, h.pe, h.de, by have := hf.seen; dsimp only; simp; omega, h.nx⟩
        exact Ok.oe (declined_is (p := { p with Last := a.At, Seen := p.Seen ++ [a.ID] }) hp' hd hf.declined) (Ok.s rfl)
      · rw [if_neg k1, if_neg k2, if_pos k3]
        rw [if_pos k3] at v6
        have v6 := inV_is.1 v6
        rw [wrap_id (by omega), wrap_id (by omega)]
      · rw [if_neg k1, if_neg k2, if_neg k3, if_pos k4, wrap_id (by omega), wrap_id (by omega)]
      · rw [if_neg k1, if_neg k2, if_neg k3, if_neg k4]
    · refine Ok.ite (fun k1 => Ok.ite (fun k2 => Ok.s ?_) (fun k2 => hJ _ ⟨rfl, by omega⟩)) (fun k1 => hJ _ ⟨rfl, by omega⟩)
      unfold answerQ
      rw [if_pos k1, if_pos k2]
  · refine Ok.oe (check_is hb h) (Ok.cnd (fun g1 => Ok.oe valid_is (Ok.cnd (fun g2 => hJ _ ⟨rfl, g1, g2⟩) (fun g2 => Ok.s ?_))) (fun g1 => Ok.s ?_))
    · unfold answerV; rw [if_pos (.inr g2)]; rfl
    · unfold answerV; rw [if_pos (.inl g1)]; rfl
end
end Go.Proofs.YtfhcigjkfelnfaaGreat
/-
  Pages on their way: what the reference's answers compute; pages compared.
-/
set_option maxRecDepth 100000
set_option linter.unusedVariables false
set_option linter.unusedSimpArgs false
namespace Go.Proofs.YtfhcigjkfelnfaaGreat
open Go AM
section
variable {n : Nat} {c : D.Config} {b : D.Book} {p q : D.Page} {now : Int} {a : D.Answer}
theorem valid28_is : r28_Valid 1000 a = some (validV a) := by
  refine Ok.eq ?_
  unfold r28_Valid
  refine Ok.j (Ok.oe rin (Ok.cnd (fun h1 => Ok.oe rin (Ok.cnd (fun h2 => Ok.oe rin (Ok.cnd (fun h3 => Ok.oe rin (Ok.cnd (fun h4 => ?_) (fun h4 => Ok.s ?_))) (fun h3 => Ok.s ?_))) (fun h2 => Ok.s ?_))) (fun h1 => Ok.s ?_)))
  · dsimp only
    refine Ok.join (fun y => y.1.1 = a.Kind ∧ y.1.2.1 = decide (a.Kind = 1 ∨ a.Kind = 2 ∨ a.Kind = 5) ∧ y.2 = (a, ())) (fun y hy => ?_) (fun J hJ => ?_)
    · obtain ⟨⟨k, z, ⟨⟩⟩, r⟩ := y
      obtain ⟨e1, e2, e3⟩ := hy
      dsimp only at e1 e2 e3
      subst e3; subst e1
      dsimp only
      refine Ok.cnd (fun g => Ok.s ?_) (fun g => Ok.ite (fun k3 => Ok.oe rin (Ok.s ?_)) (fun k3 => Ok.ite (fun k4 => Ok.oe rin (Ok.s ?_)) (fun k4 => Ok.s ?_)))
      · rw [e2] at g
        have g := of_decide_eq_true g
        have hk : inV a.Kind 1 5 = true := inV_is.2 (by omega)
        unfold validV
        rw [if_neg (by omega), if_neg (by omega), h1, h2, h3, h4, hk]; rfl
      · have hk : inV a.Kind 1 5 = true := inV_is.2 (by omega)
        unfold validV
        rw [if_pos k3, h1, h2, h3, h4, hk]; rfl
      · have hk : inV a.Kind 1 5 = true := inV_is.2 (by omega)
        unfold validV
        rw [if_neg k3, if_pos k4, h1, h2, h3, h4, hk]; rfl
      · rw [e2] at g
        have g := of_decide_eq_false g
        have hk : inV a.Kind 1 5 = false := Bool.eq_false_iff.2 fun h => by have := inV_is.1 h; omega
        unfold validV
        rw [hk]; simp
    · refine Ok.ite (fun g1 => hJ _ ⟨rfl, ?_, rfl⟩) (fun g1 => Ok.ite (fun g2 => hJ _ ⟨rfl, ?_, rfl⟩) (fun g2 => hJ _ ⟨rfl, ?_, rfl⟩))
      all_goals exact decide_eq_decide.2 (by omega)
  · unfold validV; rw [h4]; simp
  · unfold validV; rw [h3]; simp
  · unfold validV; rw [h2]; simp
  · unfold validV; rw [h1]; simp
theorem refused29_is (hf : CkF b p) : r29_refused 1000 p a = some (refusedV p a) := by
  have hs1 := hf.seen; have hs2 := hf.snoozes; have hs3 := hf.hands; have hs4 := hf.starts
  refine Ok.eq ?_
  unfold r29_refused
  refine Ok.oe due29_is ?_
  rcases hdv : dueV p with ⟨da, dd⟩
  dsimp only
  refine Ok.j (Ok.ite (fun g1 => Ok.s ?_) (fun g1 => Ok.cnd (fun g2 => Ok.ite (fun g3 => Ok.s ?_) (fun g3 => ?_)) (fun g2 => ?_)))
  · unfold refusedV; rw [if_pos (.inl g1)]
  · unfold refusedV; rw [if_pos (.inr (by unfold waitB; rw [hdv, g2]; simp; omega))]
  all_goals
    have hw : waitB p a.At = false := by
      unfold waitB
      rw [hdv, g2]
      first | rfl | (simp; omega)
    unfold refusedV
    rw [if_neg (by rw [hw]; simp; omega)]
    refine Ok.join (fun y => y.1.1 = decide (p.State = 4 ∨ (p.State = 3 ∧ a.Kind ≠ 5) ∨ (p.State = 1 ∧ a.Kind = 2)) ∧ y.2 = (p, a, ())) (fun y hy => ?_) (fun J hJ => ?_)
    · obtain ⟨⟨s2, ⟨⟩⟩, r⟩ := y
      obtain ⟨k2, k3⟩ := hy
      dsimp only at k2 k3
      subst k3
      dsimp only
      refine Ok.cnd (fun g3 => Ok.s ?_) (fun g3 => ?_)
      · rw [k2] at g3; rw [if_pos (of_decide_eq_true g3)]
      · rw [k2] at g3; rw [if_neg (of_decide_eq_false g3)]
        refine Ok.join (fun y => y.1.1 = decide (p.Seen.length = 64 ∨ (a.Kind = 3 ∧ p.Snoozes = 4) ∨ (a.Kind = 4 ∧ (p.Hands = 4 ∨ p.Starts.length = 200)))) (fun y hy => ?_) (fun J hJ => ?_)
        · obtain ⟨⟨s3, ⟨⟩⟩, ⟨⟩⟩ := y
          dsimp only at hy ⊢
          refine Ok.cnd (fun g4 => Ok.s ?_) (fun g4 => Ok.s ?_)
          · rw [hy] at g4; rw [if_pos (of_decide_eq_true g4)]
          · rw [hy] at g4; rw [if_neg (of_decide_eq_false g4)]
        · refine Ok.ite (fun g4 => hJ _ ?_) (fun g4 => Ok.ite (fun g5 => Ok.ite (fun g6 => hJ _ ?_) (fun g6 => Ok.ite (fun g7 => Ok.ite (fun g8 => hJ _ ?_) (fun g8 => Ok.ite (fun g9 => hJ _ ?_) (fun g9 => hJ _ ?_))) (fun g7 => hJ _ ?_))) (fun g5 => Ok.ite (fun g7 => Ok.ite (fun g8 => hJ _ ?_) (fun g8 => Ok.ite (fun g9 => hJ _ ?_) (fun g9 => hJ _ ?_))) (fun g7 => hJ _ ?_)))
          all_goals (dsimp only; first | exact (decide_eq_true (by omega)).symm | exact (decide_eq_false (by omega)).symm | exact decide_eq_decide.2 (by omega))
    · refine Ok.ite (fun g3 => hJ _ ⟨?_, rfl⟩) (fun g3 => Ok.ite (fun g4 => Ok.ite (fun g5 => hJ _ ⟨?_, rfl⟩) (fun g5 => Ok.ite (fun g6 => Ok.ite (fun g7 => hJ _ ⟨?_, rfl⟩) (fun g7 => hJ _ ⟨?_, rfl⟩)) (fun g6 => hJ _ ⟨?_, rfl⟩))) (fun g4 => Ok.ite (fun g6 => Ok.ite (fun g7 => hJ _ ⟨?_, rfl⟩) (fun g7 => hJ _ ⟨?_, rfl⟩)) (fun g6 => hJ _ ⟨?_, rfl⟩)))
      all_goals (dsimp only; first | exact (decide_eq_true (by omega)).symm | exact (decide_eq_false (by omega)).symm | exact decide_eq_decide.2 (by omega))
theorem with25_plus {l : List Int} {x : Int} (hl : l.length ≤ 400) (h : Asc l) : r25_With 1000 l x = some (plusV l x) := by
  rw [withR hl]
  congr 1
  exact asc_ext (withV_is h).1 (plusV_is h).1 fun z => by rw [(withV_is h).2, (plusV_is h).2]
theorem answer29_is (hb : BookOK b) (h : PageLen p) : r29_Answer 1000 c b p a = some (answerV b p a) := by
  have hse := h.se; have hst := h.st; have hde := h.de
  refine Ok.eq ?_
  unfold r29_Answer
  refine Ok.join (fun y => y = ((), p, a, page0, ()) ∧ checkV b p = true ∧ validV a = true) (fun y hy => ?_) (fun J hJ => ?_)
  · obtain ⟨rfl, hc, hv⟩ := hy
    dsimp only
    unfold answerV
    rw [if_neg (by rw [hc, hv]; simp)]
    have hf := checkV_facts hc
    have hv' := hv
    unfold validV at hv'
    simp only [Bool.and_eq_true, inV_is] at hv'
    obtain ⟨⟨⟨⟨⟨v1, v2⟩, v3⟩, v4⟩, v5⟩, v6⟩ := hv'
    have hsn := hf.snoozes; have hha := hf.hands
    refine Ok.ite (fun g1 => Ok.s ?_) (fun g1 => ?_)
    · rw [if_pos g1]; rfl
    rw [if_neg g1]
    refine Ok.oe (copy29_is h) (Ok.oe (has25_is (by omega)) (Ok.cnd (fun g2 => Ok.s ?_) (fun g2 => ?_)))
    · rw [if_pos g2]
    rw [if_neg (by rw [g2]; simp)]
    refine Ok.oe (refused29_is hf) (Ok.ite (fun g3 => Ok.s ?_) (fun g3 => ?_))
    · rw [if_pos g3]; rfl
    rw [if_neg g3]
    refine Ok.lec (by simp; omega) (Ok.j ?_)
    unfold answerQ
    refine Ok.ite (fun k1 => Ok.ite (fun k2 => Ok.s ?_) (fun k2 => Ok.s ?_)) (fun k1 => Ok.ite (fun k2 => ?_) (fun k2 => Ok.ite (fun k3 => Ok.s ?_) (fun k3 => Ok.ite (fun k4 => Ok.lec (by simp; omega) (Ok.s ?_)) (fun k4 => Ok.ite (fun k5 => Ok.s ?_) (fun k5 => absurd v5 (by omega))))))
    · rw [if_pos k1, if_pos k2]
    · rw [if_pos k1, if_neg k2]
    · rw [if_neg k1, if_pos k2]
      have hcl := called_len h
      refine Ok.oe (called29_is h) ?_
      refine Ok.join (fun y => y = ((calledV p, ()), p, a, page0, (p.ID, p.Policy, p.Start, p.Next, p.Due, p.State, p.By, p.Until, a.At, p.Snoozes, p.Hands, declQ p a, ()), p.Starts, p.Seen ++ [a.ID], ())) (fun y hy => ?_) (fun J hJ => ?_)
      · subst hy
        dsimp only
        have hdl : (declQ p a).length ≤ 900 := by
          unfold declQ plusV
          split
          · have h1 := List.length_filter_le (fun z => decide (z < a.Person)) p.Declined
            have h2 := List.length_filter_le (fun z => decide (a.Person < z)) p.Declined
            simp only [List.length_append, List.length_cons]; omega
          · omega
        obtain ⟨aD, haD⟩ : ∃ aD : Nat → Bool, ∀ i, aD i = (decide ((0 : Int) < (((calledV p).length : Nat) : Int)) && ((calledV p).take i).all fun z => (declQ p a).contains z) := ⟨fun i => _, fun i => rfl⟩
        have hall : ∀ i, i < (calledV p).length → aD (i + 1) = (aD i && (declQ p a).contains (nth (calledV p) i)) := fun i hi => by
          rw [haD, haD, ← take_snoc' hi, List.all_append, Bool.and_assoc]
          simp
        have hlast : allDown p a = aD (calledV p).length := by
          rw [haD, List.take_length]
          unfold allDown
          congr 1
          refine decide_eq_decide.2 ⟨fun hne => by have := List.length_pos_iff.2 hne; omega, fun hpos e => by rw [e] at hpos; simp at hpos⟩
        refine Ok.run2 (calledV p).length (fun i => (calledV p, aD i, (i : Int), ())) (by rw [haD]; simp) (by omega) (fun i hi k hk => ?_) (fun k => ?_)
        · dsimp only at hk ⊢
          rw [hall i hi] at hk
          refine Ok.p (by omega) (Ok.j (Ok.cnd (fun g => Ok.atn hi (Ok.oe (has25_is hdl) (Ok.cnd (fun g' => ?_) (fun g' => ?_)))) (fun g => ?_)))
          · dsimp only
            rw [wrap_succ (by omega)]
            rw [g, g'] at hk; exact hk
          · dsimp only
            rw [wrap_succ (by omega)]
            rw [g, g'] at hk; exact hk
          · dsimp only
            rw [wrap_succ (by omega)]
            rw [g] at hk; exact hk
        · dsimp only
          rw [hlast]
          refine Ok.n (by omega) (Ok.cnd (fun g => Ok.ite (fun g0 => Ok.s ?_) (fun g0 => Ok.s ?_)) (fun g => Ok.s ?_))
          · rw [if_pos ⟨g, g0⟩]
          · rw [if_neg (fun hx => g0 hx.2)]
          · rw [if_neg (by rw [g]; simp)]
      · refine Ok.oe (has25_is (by omega)) (Ok.cnd (fun g4 => ?_) (fun g4 => ?_))
        · have hd := (setV_is.1 hf.declined).1
          refine Ok.oe (with25_plus (by omega) hd) (hJ _ ?_)
          have : declQ p a = plusV p.Declined a.Person := by unfold declQ; rw [if_pos g4]
          rw [this]
        · refine hJ _ ?_
          have : declQ p a = p.Declined := by unfold declQ; rw [if_neg (by rw [g4]; simp)]
          rw [this]
    · rw [if_neg k1, if_neg k2, if_pos k3]
      rw [if_pos k3] at v6
      have v6 := inV_is.1 v6
      rw [wrap_id (by omega), wrap_id (by omega)]
    · rw [if_neg k1, if_neg k2, if_neg k3, if_pos k4, wrap_id (by omega), wrap_id (by omega)]
    · rw [if_neg k1, if_neg k2, if_neg k3, if_neg k4]
  · refine Ok.oe (check29_is hb h) (Ok.cnd (fun g1 => Ok.oe valid28_is (Ok.cnd (fun g2 => hJ _ ⟨rfl, g1, g2⟩) (fun g2 => Ok.s ?_))) (fun g1 => Ok.s ?_))
    · unfold answerV; rw [if_pos (.inr g2)]; rfl
    · unfold answerV; rw [if_pos (.inl g1)]; rfl
end
end Go.Proofs.YtfhcigjkfelnfaaGreat
/-
  What else is kept of made pages: who declined, which answers were seen. Plain Lean.
-/
set_option maxRecDepth 100000
set_option linter.unusedVariables false
set_option linter.unusedSimpArgs false
namespace Go.Proofs.YtfhcigjkfelnfaaGreat
open Go AM
section
variable {n : Nat} {c : D.Config} {b : D.Book} {p q : D.Page} {now k M : Int} {a : D.Answer} {Q : Int → D.Start → Prop}
structure PgX (k : Int) (p : D.Page) : Prop where
  decl : ∀ x ∈ p.Declined, x < 4
  seen : ∀ x ∈ p.Seen, 1 ≤ x ∧ x ≤ k
theorem PgX.mono {k' : Int} (h : PgX k p) (hk : k ≤ k') : PgX k' p := ⟨h.decl, fun x hx => ⟨(h.seen x hx).1, Int.le_trans (h.seen x hx).2 hk⟩⟩
theorem PgX.step (h : PgX k p) : PgX k (stepQ c b p) := by
  unfold stepQ
  split
  · exact ⟨h.decl, h.seen⟩
  · split
    · exact ⟨h.decl, h.seen⟩
    · exact ⟨by simp, h.seen⟩
theorem PgX.run (h : PgX k p) (hb : BookOK b) (hQ : StepQ Q M c b) (hi : PageInv Q M b p) : PgX k (runV c b p now).1 :=
  runV_ind hb hQ (fun q _ _ hr => hr.step) hi h
theorem plusV_mem {l : List Int} {x z : Int} (h : z ∈ plusV l x) : z ∈ l ∨ z = x := by
  unfold plusV at h
  rcases List.mem_append.1 h with h | h
  · exact .inl (List.mem_filter.1 h).1
  · rcases List.mem_cons.1 h with h | h
    · exact .inr h
    · exact .inl (List.mem_filter.1 h).1
theorem PgX.answer (h : PgX k p) (ha : a.Person < 4) (hi : 1 ≤ a.ID ∧ a.ID ≤ k) : PgX k (answerQ p a) := by
  have hs : ∀ x ∈ p.Seen ++ [a.ID], 1 ≤ x ∧ x ≤ k := mem_snoc h.seen hi
  have hd : ∀ x ∈ declQ p a, x < 4 := by
    unfold declQ
    split
    · intro x hx
      rcases plusV_mem hx with hx | rfl
      · exact h.decl x hx
      · exact ha
    · exact h.decl
  unfold answerQ
  split
  · split
    · exact ⟨h.decl, hs⟩
    · exact ⟨h.decl, hs⟩
  · split
    · exact ⟨hd, hs⟩
    · split
      · exact ⟨h.decl, hs⟩
      · split
        · exact ⟨by simp, hs⟩
        · exact ⟨h.decl, hs⟩
theorem PgX.new {id pol start : Int} : PgX k (newP id pol start) := ⟨by simp [newP], by simp [newP]⟩
theorem PgX.slen {m : Nat} (h : PgX (m : Int) p) (hn : p.Seen.Nodup) : p.Seen.length ≤ m := by
  have hsub : ∀ (l : List Int), l.Nodup → ∀ (r : List Int), (∀ x ∈ l, x ∈ r) → l.length ≤ r.length := by
    intro l
    induction l with
    | nil => intro _ r _; simp
    | cons y l ih =>
      intro hn r hr
      have hy := hr y (List.mem_cons_self ..)
      have := ih (List.nodup_cons.1 hn).2 (r.erase y) fun x hx => (List.mem_erase_of_ne (fun e => by subst e; exact (List.nodup_cons.1 hn).1 hx)).2 (hr x (List.mem_cons_of_mem _ hx))
      rw [List.length_erase_of_mem hy] at this
      have hpos := List.length_pos_of_mem hy
      rw [List.length_cons]; omega
  have := hsub p.Seen hn ((List.range m).map fun (i : Nat) => (i : Int) + 1) fun x hx => by
    have := h.seen x hx
    exact List.mem_map.2 ⟨(x - 1).toNat, List.mem_range.2 (by omega), by omega⟩
  simpa using this
theorem called_set (h : PageInv Q M b p) : setV (calledV p) = true := by
  unfold calledV
  split
  · decide
  · rename_i hne
    obtain ⟨t, h1, _⟩ := h.goes
    have hs := h1.scan
    have hpos := List.length_pos_iff.2 hne
    exact (hs.2.2 (p.Starts.length - 1) (by omega)).2.1
theorem called_short (h : PageInv (QP c b) M b p) (hb : BookOK b) : (calledV p).length ≤ 4 := by
  unfold calledV
  split
  · simp
  · rename_i hne
    obtain ⟨t, h1, _⟩ := h.goes
    have hpos := List.length_pos_iff.2 hne
    generalize hk : p.Next = kk at h1
    generalize hh : p.Hands = hd at h1
    generalize p.Starts = l at h1 hne hpos
    cases h1 with
    | nil => simp at hpos
    | step g a1 a2 a3 a4 =>
      rw [List.length_append, List.length_singleton, Nat.add_sub_cancel, nth_app_r]
      rw [a4.2]; exact callV_len
    | hand g a1 a2 a3 a4 =>
      rw [List.length_append, List.length_singleton, Nat.add_sub_cancel, nth_app_r]
      simp
end
end Go.Proofs.YtfhcigjkfelnfaaGreat
/-
  How the statements begin: light inputs, dice.
-/
set_option linter.unusedVariables false
namespace Go.Proofs.YtfhcigjkfelnfaaGreat
open Go AM
theorem light_is {t : List Int} : made_Light 1000 t = some (decide (((t.length : Nat) : Int) ≤ 500)) := rfl
theorem roll_is {t : List Int} : made_Roll 1000 t = some ⟨t, 0⟩ := rfl
theorem dice0 {t : List Int} : DiceOK t ⟨t, 0⟩ := ⟨rfl, Int.le_refl _, by dsimp only; omega⟩
theorem light_len {t : List Int} (h : decide (((t.length : Nat) : Int) ≤ 500) = true) : t.length ≤ 500 := by have := of_decide_eq_true h; omega
end Go.Proofs.YtfhcigjkfelnfaaGreat
/-
  Pages and answers that are made by dice: what holds of them.
-/
set_option maxRecDepth 100000
set_option linter.unusedVariables false
set_option linter.unusedSimpArgs false
namespace Go.Proofs.YtfhcigjkfelnfaaGreat
open Go AM
attribute [local irreducible] dueV stepV runV checkV answerV
section
variable {n : Nat} {c : D.Config} {b : D.Book} {p q : D.Page} {now k M : Int} {a : D.Answer} {Q : Int → D.Start → Prop} {L : List Int} {d : D.Dice}
structure AnsOK (a : D.Answer) : Prop where
  pers : -1 ≤ a.Person ∧ a.Person < 4
  kind : 1 ≤ a.Kind ∧ a.Kind ≤ 5
  arg3 : a.Kind = 3 → 1 ≤ a.Arg ∧ a.Arg ≤ 5000
  arg4 : a.Kind = 4 → 0 ≤ a.Arg ∧ a.Arg < 4
  arg0 : a.Kind ≠ 3 → a.Kind ≠ 4 → a.Arg = 0
theorem AnsOK.valid (h : AnsOK a) (h1 : 1 ≤ a.ID ∧ a.ID ≤ 999999) (h2 : 1 ≤ a.Page ∧ a.Page ≤ 999999) (h3 : 0 ≤ a.At ∧ a.At ≤ 8589934592) : validV a = true := by
  have hp := h.pers; have hk := h.kind
  unfold validV
  rw [inV_is.2 h1, inV_is.2 h2, inV_is.2 (show -1 ≤ a.Person ∧ a.Person ≤ 31 by omega), inV_is.2 h3, inV_is.2 hk]
  simp only [Bool.true_and]
  split
  · rename_i k3; have := h.arg3 k3; exact inV_is.2 (by omega)
  · split
    · rename_i k4; have := h.arg4 k4; exact inV_is.2 (by omega)
    · rename_i k3 k4; exact decide_eq_true (h.arg0 k3 k4)
theorem answer_ok {id page at_ : Int} (hL : L.length ≤ 500) (hd : DiceOK L d) : Ok (made_Dice_Answer 1000 d id page at_) fun r => DiceOK L r.2 ∧ AnsOK r.1 ∧ r.1.ID = id ∧ r.1.Page = page ∧ r.1.At = at_ := by
  unfold made_Dice_Answer
  refine Ok.opt (nx hL hd (by omega) (by omega)) fun ⟨a0, d1⟩ ⟨h1, l1, u1⟩ => ?_
  dsimp only at h1 l1 u1 ⊢
  refine Ok.opt (nx hL h1 (by omega) (by omega)) fun ⟨a2, d3⟩ ⟨h3, l3, u3⟩ => ?_
  dsimp only at h3 l3 u3 ⊢
  rw [wrap_id (x := 1 + a2) (by omega), wrap_id (x := a0 - 1) (by omega)]
  refine Ok.j (Ok.ite (fun g => ?_) (fun g => Ok.ite (fun g' => ?_) (fun g' => ?_)))
  · refine Ok.opt (one_ok hL h3 (by simp) (by simp)) fun ⟨a8, d9⟩ ⟨h9, m9⟩ => Ok.s ⟨h9, ⟨by dsimp only; omega, by dsimp only; omega, fun _ => ?_, fun e => ?_, fun e => absurd g e⟩, rfl, rfl, rfl⟩
    · dsimp only at m9 ⊢
      simp only [List.mem_cons, List.not_mem_nil, or_false] at m9
      omega
    · dsimp only at e; omega
  · refine Ok.opt (nx hL h3 (by omega) (by omega)) fun ⟨a10, d11⟩ ⟨h11, l11, u11⟩ => Ok.s ⟨h11, ⟨by dsimp only; omega, by dsimp only; omega, fun e => ?_, fun _ => ⟨l11, u11⟩, fun _ e => absurd g' e⟩, rfl, rfl, rfl⟩
    dsimp only at e; omega
  · exact Ok.s ⟨h3, ⟨by dsimp only; omega, by dsimp only; omega, fun e => absurd e g, fun e => absurd e g', fun _ _ => rfl⟩, rfl, rfl, rfl⟩
theorem runV_pair (hb : BookOK b) (hQ : StepQ Q M c b) (h : PageInv Q M b p) (now : Int) : ∃ q, runV c b p now = (q, 0) ∧ PageInv Q M b q ∧ waitB q now = false ∧ Kept p q := by
  have h1 := runV_inv (now := now) hb hQ h
  have h2 := runV_kept (now := now) hb hQ h
  rcases hr : runV c b p now with ⟨q, e⟩
  rw [hr] at h1 h2
  obtain ⟨a1, a2, a3⟩ := h1
  dsimp only at a1 a2 a3 h2
  subst a2
  exact ⟨q, rfl, a1, a3, h2⟩
theorem runV_pairL (hb : BookOK b) (hQ : StepQ Q M c b) (h : PageInv Q M b p) (hx : PgX k p) (hl : p.Last ≤ now) : ∃ q, runV c b p now = (q, 0) ∧ PageInv Q M b q ∧ waitB q now = false ∧ Kept p q ∧ PgX k q ∧ q.Last ≤ now := by
  obtain ⟨q, h1, h2, h3, h4⟩ := runV_pair hb hQ h now
  have h5 := hx.run (now := now) hb hQ h
  have h6 := runV_last (now := now) hb hQ h hl
  rw [h1] at h5 h6
  exact ⟨q, h1, h2, h3, h4, h5, h6⟩
theorem answerV_pair (hb : BookOK b) (h : PageInv Q M b p) (hx : PgX k p) (hv : validV a = true) (hp : a.Page = p.ID) (ha : a.At ≤ M - 20000) (hs : a.Kind = 3 → a.Arg ≤ 5000) (hpe : a.Person < 4) (hk : 1 ≤ a.ID ∧ a.ID ≤ k) (hl : p.Last ≤ a.At) :
    ((answerV b p a).2 ≠ 0) ∨ ∃ q, answerV b p a = (q, 0) ∧ PageInv Q M b q ∧ PgX k q ∧ q.Last ≤ a.At ∧ q.ID = p.ID ∧ q.Policy = p.Policy ∧ q.Start = p.Start ∧ q.Next = p.Next := by
  by_cases hse : p.Seen.contains a.ID = true
  · exact .inr ⟨p, answerV_old (h.check hb) hv hp hse, h, hx, hl, rfl, rfl, rfl, rfl⟩
  · have hse : p.Seen.contains a.ID = false := by simpa using hse
    rw [answerV_new (h.check hb) hv hp hse]
    by_cases hr : refusedV p a = 0
    · rw [if_neg (by simp [hr])]
      exact .inr ⟨_, rfl, h.answerQ_inv hb hv ha hs hse hr, hx.answer hpe hk, answerQ_last hl, answerQ_id⟩
    · rw [if_pos hr]; exact .inl hr
structure MadeP (c : D.Config) (b : D.Book) (p : D.Page) (now : Int) : Prop where
  inv : PageInv (QP c b) 1000000 b p
  x : PgX 9 p
  last : p.Last ≤ now
  id : p.ID ≤ 3
  lo : 864000 ≤ now
  hi : now ≤ 880000
theorem page_ok {k : Int} (hL : L.length ≤ 500) (hd : DiceOK L d) (hc : CfgOK n c) (hn : n ≤ 48) (hb : BookOK b) (hk : 0 ≤ k ∧ k ≤ 6) :
    Ok (made_Dice_Page 1000 d c b k) fun r => DiceOK L r.2.2 ∧ MadeP c b r.1 r.2.1 := by
  have hpl := hb.plen
  unfold made_Dice_Page
  refine Ok.opt (one_ok hL hd (by simp) (by simp)) fun ⟨a0, d1⟩ ⟨h1, m1⟩ => ?_
  dsimp only at h1 m1 ⊢
  simp only [List.mem_cons, List.not_mem_nil, or_false] at m1
  refine Ok.opt (nx hL h1 (by omega) (by omega)) fun ⟨a2, d3⟩ ⟨h3, l3, u3⟩ => ?_
  dsimp only at h3 l3 u3 ⊢
  refine Ok.opt (nx hL h3 (by omega) (by omega)) fun ⟨a4, d5⟩ ⟨h5, l5, u5⟩ => ?_
  dsimp only at h5 l5 u5 ⊢
  rw [wrap_id (x := 1 + a2) (by omega), wrap_id (x := 864000 + a0) (by omega)]
  have hnew : newV b (1 + a2) a4 (864000 + a0) = (newP (1 + a2) a4 (864000 + a0), 0) := by
    unfold newV
    rw [if_pos ⟨inV_is.2 (by omega), inV_is.2 (by omega)⟩, if_pos (inV_is.2 (by omega))]
  refine Ok.oe (new29_is hb) ?_
  rw [hnew]
  dsimp only
  refine Ok.n (by simp) ?_
  rw [wrap_id (x := k + 1) (by omega)]
  refine Ok.opt (nx hL h5 (by omega) (by omega)) fun ⟨a8, d9⟩ ⟨h9, l9, u9⟩ => ?_
  dsimp only at h9 l9 u9 ⊢
  refine Ok.loop (fun m x => ∃ (now i : Int) (d : D.Dice) (p : D.Page), x = ((now, i, ()), d, c, b, page0, p, ()) ∧ DiceOK L d ∧ PageInv (QP c b) 1000000 b p ∧ PgX 9 p ∧ p.Last ≤ now ∧ p.ID ≤ 3 ∧ 864000 ≤ now ∧ now + 2000 * i ≤ 880000 ∧ 0 ≤ i ∧ m = i.toNat) (m := a8.toNat) (by omega)
    ⟨864000 + a0, a8, d9, _, rfl, h9, new_inv (by omega) hb (by omega) (by omega) (by omega), .new, Int.le_refl _, by show 1 + a2 ≤ 3; omega, by omega, by omega, l9, rfl⟩ ?_
  rintro m x ⟨now, i, d, p, rfl, i1, i2, i3, i4, i5, i6, i7, i8, rfl⟩ K hK
  dsimp only
  refine Ok.ite (fun hi => ?_) (fun hi => Ok.s ⟨i1, i2, i3, i4, i5, i6, by dsimp only; omega⟩)
  refine Ok.j (Ok.opt (one_ok hL i1 (by simp) (by simp)) fun ⟨a26, d27⟩ ⟨h27, m27⟩ => ?_)
  dsimp only at h27 m27 ⊢
  simp only [List.mem_cons, List.not_mem_nil, or_false] at m27
  obtain ⟨t, ht⟩ : ∃ t, now + a26 = t := ⟨_, rfl⟩
  rw [wrap_id (x := now + a26) (by omega), ht]
  obtain ⟨q, r1, r2, r3, r4, r5, r6⟩ := runV_pairL (now := t) hb QP.step i2 i3 (by omega)
  refine Ok.join (fun y => ∃ (d : D.Dice) (p : D.Page), y = ((t, i, ()), d, c, b, page0, p, ()) ∧ DiceOK L d ∧ PageInv (QP c b) 1000000 b p ∧ PgX 9 p ∧ p.Last ≤ t ∧ p.ID ≤ 3) (fun y hy => ?_) (fun J hJ => ?_)
  · obtain ⟨d, p, rfl, j1, j2, j3, j4, j5⟩ := hy
    dsimp only
    refine Ok.opt (nx hL j1 (by omega) (by omega)) fun ⟨a35, d36⟩ ⟨h36, l36, u36⟩ => ?_
    dsimp only at h36 l36 u36 ⊢
    rw [wrap_id (x := 1 + a35) (by omega)]
    refine Ok.opt (answer_ok hL h36) fun ⟨a, d38⟩ ⟨h38, ha, e1, e2, e3⟩ => ?_
    dsimp only at h38 ha e1 e2 e3 ⊢
    have hv : validV a = true := ha.valid (by omega) (by have := j2.id; omega) (by omega)
    refine Ok.oe (answer29_is hb (j2.plen hb)) ?_
    have fin : ∀ (d : D.Dice) (p : D.Page), DiceOK L d → PageInv (QP c b) 1000000 b p → PgX 9 p → p.Last ≤ t → p.ID ≤ 3 → Ok (K ((t, IntKind.wrap .i64 (i - 1), ()), d, c, b, page0, p, ())) fun r => DiceOK L r.2.2 ∧ MadeP c b r.1 r.2.1 := fun d p f1 f2 f3 f4 f5 => by
      rw [wrap_id (by omega)]
      exact hK (i - 1).toNat _ (by omega) ⟨t, i - 1, d, p, rfl, f1, f2, f3, f4, f5, by omega, by omega, by omega, rfl⟩
    rcases answerV_pair (a := a) hb j2 j3 hv e2 (by omega) (fun e => (ha.arg3 e).2) ha.pers.2 (by omega) (by omega) with hne | ⟨q', e, g1, g2, g3, g4, _⟩
    · rcases hav : answerV b p a with ⟨q', er⟩
      rw [hav] at hne
      exact Ok.n hne (fin _ _ h38 j2 j3 j4 j5)
    · rw [e]
      dsimp only
      refine Ok.p rfl (Ok.opt (nx hL h38 (by omega) (by omega)) fun ⟨a41, d42⟩ ⟨h42, _⟩ => ?_)
      exact Ok.ite (fun _ => fin _ _ h42 g1 g2 (by omega) (by omega)) (fun _ => fin _ _ h42 j2 j3 j4 j5)
  · refine Ok.oe (run29_is hc hn hb (i2.plen hb)) ?_
    rw [r1]
    dsimp only
    refine Ok.p rfl (Ok.opt (nx hL h27 (by omega) (by omega)) fun ⟨a46, d47⟩ ⟨h47, _⟩ => ?_)
    exact Ok.ite (fun _ => hJ _ ⟨_, _, rfl, h47, r2, r5, r6, by rw [r4.id]; exact i5⟩) (fun _ => hJ _ ⟨_, _, rfl, h47, i2, i3, by omega, i5⟩)
end
end Go.Proofs.YtfhcigjkfelnfaaGreat
/-
  The laws EscalateEnds and EscalateSplits, of what is reckoned of their code.
-/
set_option maxRecDepth 100000
set_option linter.unusedVariables false
set_option linter.unusedSimpArgs false
namespace Go.Proofs.YtfhcigjkfelnfaaGreat
open Go AM
attribute [local irreducible] dueV stepV runV checkV answerV
theorem sane29 : law29_sane 1000 = some true := by kernel_rfl
theorem runV_step {Q : Int → D.Start → Prop} {M now : Int} {b : D.Book} {p : D.Page} {c : D.Config} (hb : BookOK b) (hQ : StepQ Q M c b) (h : PageInv Q M b p) (hw : waitB p now = true) :
    runV c b (stepQ c b p) now = runV c b p now ∧ PageInv Q M b (stepQ c b p) := by
  have hd := waitB_due hw
  have h1 := h.stepQ_inv hb hd.1 (hQ p h)
  refine ⟨?_, h1⟩
  have hl := leftV_le hb h1
  rw [runV_is (h.check hb), runV_is (h1.check hb), show runN c b now 100 p = runN c b now 99 (stepQ c b p) from by rw [show (100 : Nat) = 99 + 1 from rfl, runN, if_pos hw, h.stepVis hb hd.1, if_neg (by simp)]]
  exact runN_more hb hQ 100 99 h1 (by omega) (by omega)
end Go.Proofs.YtfhcigjkfelnfaaGreat
/-
  The laws EscalateRests and EscalateDeclines, of what is reckoned of their code.
-/
set_option maxRecDepth 100000
set_option linter.unusedVariables false
set_option linter.unusedSimpArgs false
namespace Go.Proofs.YtfhcigjkfelnfaaGreat
open Go AM
attribute [local irreducible] dueV stepV runV checkV answerV
theorem down_ans {Q : Int → D.Start → Prop} {M t : Int} {b : D.Book} {q : D.Page} {i : Nat} (hx : PgX 9 q) (hsn : q.Seen.Nodup) (hset : setV (calledV q) = true) (hs : q.State = 0) (hi : i < (calledV q).length) (hl : (calledV q).length ≤ 4) (hdue : t < q.Due) (hlast : q.Last ≤ t) (hid : 1 ≤ q.ID ∧ q.ID ≤ 999999) (ht : 0 ≤ t ∧ t ≤ 8589934592) :
    validV ⟨100 + (i : Int), (downP q t i).ID, nth (calledV q) i, 2, 0, t⟩ = true ∧ (downP q t i).Seen.contains (100 + (i : Int)) = false ∧ refusedV (downP q t i) ⟨100 + (i : Int), (downP q t i).ID, nth (calledV q) i, 2, 0, t⟩ = 0 := by
  have hm := (setV_is.1 hset).2 _ (nth_mem hi)
  refine ⟨?_, contains_lt fun y hy => ?_, ?_⟩
  · unfold validV
    rw [inV_is.2 (show 1 ≤ 100 + (i : Int) ∧ 100 + (i : Int) ≤ 999999 by omega), inV_is.2 (show 1 ≤ (downP q t i).ID ∧ (downP q t i).ID ≤ 999999 from hid), inV_is.2 (show -1 ≤ nth (calledV q) i ∧ nth (calledV q) i ≤ 31 by omega), inV_is.2 ht]
    rfl
  · rcases List.mem_append.1 (show y ∈ q.Seen ++ (List.range i).map (fun (j : Nat) => 100 + (j : Int)) from hy) with hy | hy
    · have := hx.seen y hy; omega
    · obtain ⟨j, hj, rfl⟩ := List.mem_map.1 hy
      have := List.mem_range.1 hj; omega
  · have hsl := hx.slen (m := 9) hsn
    have hw : waitB (downP q t i) t = false := by
      rw [waitB_0 (show (downP q t i).State = 0 from hs)]
      refine decide_eq_false ?_
      show ¬ (if 0 < i ∧ i = (calledV q).length then t else q.Due) ≤ t
      rw [if_neg (by omega)]; omega
    have hla : (downP q t i).Last ≤ t := by
      show (if i = 0 then q.Last else t) ≤ t
      split <;> omega
    have hst : (downP q t i).State = 0 := hs
    have hsd : (downP q t i).Seen.length = q.Seen.length + i := by
      show (q.Seen ++ (List.range i).map (fun (j : Nat) => 100 + (j : Int))).length = _
      simp
    unfold refusedV
    rw [if_neg (by rw [hw]; simp; omega), if_neg (by dsimp only; omega), if_neg (by dsimp only; omega)]
theorem downP_zero {q : D.Page} {t : Int} (h : q.Declined = []) : downP q t 0 = q := by
  unfold downP
  rw [if_pos rfl, if_neg (by omega), List.take_zero, ← h]
  simp
theorem escalateDeclines_true (t : List Int) : law29_EscalateDeclines 1000 t = some true := by
  refine Ok.eq ?_
  unfold law29_EscalateDeclines
  refine Ok.oe light_is (Ok.ncnd (fun _ => Ok.oe sane29 (Ok.s rfl)) fun hl => Ok.oe roll_is ?_)
  have hL := light_len hl
  refine Ok.opt (crew_ok hL dice0 (by omega)) fun ⟨c, d1⟩ ⟨h1, hc⟩ => ?_
  dsimp only at h1 hc ⊢
  refine Ok.opt (book_ok hL h1 (by omega)) fun ⟨b, d2⟩ ⟨h2, hb⟩ => ?_
  dsimp only at h2 hb ⊢
  refine Ok.opt (page_ok (k := 4) hL h2 hc (by omega) hb (by omega)) fun ⟨p, now, d3⟩ ⟨h3, hp⟩ => ?_
  dsimp only at h3 hp ⊢
  have hlo := hp.lo; have hhi := hp.hi
  obtain ⟨q, r1, r2, r3, r4, r5, r6⟩ := runV_pairL (now := now) hb QP.step hp.inv hp.x hp.last
  refine Ok.oe (run_is hc (by omega) hb (hp.inv.plen hb)) ?_
  rw [r1]
  dsimp only
  refine Ok.n (by simp) (Ok.oe (called_is (r2.plen hb)) ?_)
  refine Ok.join (fun y => y = ((now, calledV q, ()), c, b, q, ()) ∧ q.State = 0 ∧ calledV q ≠ [] ∧ q.Declined = []) (fun y hy => ?_) (fun J hJ => ?_)
  · obtain ⟨rfl, hs, hne, hdec⟩ := hy
    dsimp only
    have hduq : now < q.Due := by
      rw [waitB_0 hs] at r3
      have := of_decide_eq_false r3; omega
    have hset := called_set r2
    have hasc := (setV_is.1 hset).1
    have hcs := called_short r2 hb
    have hid := r2.id
    have hsn := (checkV_facts (r2.check hb)).seen.1
    have hpos := List.length_pos_iff.2 hne
    refine Ok.oe due_is ?_
    rw [dueV_fst0 hs]
    dsimp only
    have hda : ∀ i, i < (calledV q).length → _ := fun i hi => down_ans (Q := QP c b) (M := 1000000) (b := b) (t := now) r5 hsn hset hs hi hcs hduq r6 hid (by omega)
    have hdown : ∀ i, i ≤ (calledV q).length → PageInv (QP c b) 1000000 b (downP q now i) := by
      intro i
      induction i with
      | zero => intro _; rw [downP_zero hdec]; exact r2
      | succ i ih =>
        intro hi
        obtain ⟨g1, g2, g3⟩ := hda i (by omega)
        rw [← downP_next hs hasc (show i < (calledV q).length by omega)]
        exact (ih (by omega)).answerQ_inv hb g1 (by dsimp only; omega) (by intro e; simp at e) g2 g3
    refine Ok.loop (fun m x => ∃ i : Nat, x = ((now, calledV q, q.Due, calledV q, (((calledV q).length : Nat) : Int), (i : Int), ()), c, b, downP q now i, ()) ∧ i ≤ (calledV q).length ∧ m = (calledV q).length - i) (m := (calledV q).length) (by omega) ⟨0, by rw [downP_zero hdec]; rfl, by omega, rfl⟩ ?_
    rintro m x ⟨i, rfl, i1, rfl⟩ K hK
    dsimp only
    have hP := hdown i i1
    refine Ok.ite (fun hlt => ?_) (fun hge => ?_)
    · have hi : i < (calledV q).length := by omega
      obtain ⟨g1, g2, g3⟩ := hda i hi
      have hP' := hdown (i + 1) (by omega)
      refine Ok.atn hi ?_
      rw [wrap_id (x := 100 + (i : Int)) (by omega)]
      have hans : answerV b (downP q now i) ⟨100 + (i : Int), (downP q now i).ID, nth (calledV q) i, 2, 0, now⟩ = (downP q now (i + 1), 0) := by
        rw [answerV_new (hP.check hb) g1 rfl g2, if_neg (by simp [g3])]
        exact congrArg (fun z => (z, (0 : Int))) (downP_next hs hasc hi)
      have hdl : (downP q now i).Declined.length ≤ 11 := by
        show ((calledV q).take i).length ≤ 11
        simp; omega
      refine Ok.oe (answer_is hb (hP.plen hb) hdl) ?_
      rw [hans]
      dsimp only
      refine Ok.join (fun y => y = ((now, calledV q, q.Due, (i : Int), calledV q, (((calledV q).length : Nat) : Int), (i : Int), ()), c, b, downP q now i, downP q now (i + 1), ())) (fun y hy => ?_) (fun J2 hJ2 => ?_)
      · subst hy
        dsimp only
        have next : Ok (K ((now, calledV q, q.Due, calledV q, (((calledV q).length : Nat) : Int), IntKind.wrap .i64 ((i : Int) + 1), ()), c, b, downP q now (i + 1), ())) (· = true) := by
          rw [wrap_succ (by omega)]
          exact hK _ _ (by omega) ⟨i + 1, rfl, by omega, rfl⟩
        refine Ok.oe due_is ?_
        rw [dueV_fst0 (p := downP q now (i + 1)) hs, wrap_succ (by omega)]
        dsimp only
        have hD : (downP q now (i + 1)).Due = if i + 1 = (calledV q).length then now else q.Due := by
          show (if 0 < i + 1 ∧ i + 1 = (calledV q).length then now else q.Due) = _
          by_cases e : i + 1 = (calledV q).length
          · rw [if_pos ⟨by omega, e⟩, if_pos e]
          · rw [if_neg (fun h => e h.2), if_neg e]
        refine Ok.j (Ok.ite (fun k1 => ?_) (fun k1 => ?_))
        · rw [hD, if_neg (by omega)]
          exact Ok.n (by simp) (Ok.n (by omega) (Ok.t next))
        · rw [hD, if_pos (by omega)]
          exact Ok.p (by omega) (Ok.n (by simp) (Ok.t next))
      · refine Ok.n (by simp) (Ok.oe (has25_is ?_) (Ok.bt ?_ (hJ2 _ rfl)))
        · show ((calledV q).take (i + 1)).length ≤ 900
          simp; omega
        · show ((calledV q).take (i + 1)).contains (nth (calledV q) i) = true
          rw [← take_snoc' hi]; simp
    · obtain rfl : i = (calledV q).length := by omega
      have hsP : (downP q now (calledV q).length).State = 0 := hs
      have hdP : (downP q now (calledV q).length).Due = now := by
        show (if 0 < (calledV q).length ∧ (calledV q).length = (calledV q).length then now else q.Due) = now
        rw [if_pos ⟨hpos, rfl⟩]
      obtain ⟨P, hPe⟩ : ∃ P, downP q now (calledV q).length = P := ⟨_, rfl⟩
      rw [hPe] at hP hsP hdP ⊢
      obtain ⟨z, z1, z2, z3, z4⟩ := runV_pair hb QP.step hP now
      have hw : waitB P now = true := by rw [waitB_0 hsP, hdP]; exact decide_eq_true (Int.le_refl _)
      have hst := runV_step hb QP.step hP hw
      have hend : z.State = 3 ∨ P.Starts.length < z.Starts.length := by
        by_cases hcn : countV (polOf b P) ≤ P.Next
        · have hsq : stepQ c b P = { P with State := 3, Last := max P.Due P.Last } := by
            unfold stepQ; rw [if_neg (by omega), if_pos hcn]
          have hid := runV_idle (c := c) (now := now) (hst.2.check hb) (waitB_not (by rw [hsq]; simp) (by rw [hsq]; simp))
          rw [hst.1, z1] at hid
          have := (Prod.mk.inj hid).1
          rw [this, hsq]
          exact .inl rfl
        · have hlen := runV_len (now := now) hb QP.step hst.2
          rw [hst.1, z1] at hlen
          have : (stepQ c b P).Starts.length = P.Starts.length + 1 := by
            unfold stepQ; rw [if_neg (by omega), if_neg hcn]; simp
          dsimp only at hlen
          exact .inr (by omega)
      refine Ok.oe (run_is hc (by omega) hb (hP.plen hb)) ?_
      rw [z1]
      dsimp only
      have tail : Ok (optc (r29_Check 1000 b z) fun a61 => AM.cnd a61 (optc (law29_sane 1000) fun a62 => AM.cnd a62 (some true) (some false)) (some false)) (· = true) :=
        Ok.oe (check29_is hb (z2.plen hb)) (Ok.bt (z2.check hb) (Ok.oe sane29 (Ok.t (Ok.s rfl))))
      refine Ok.p rfl ?_
      by_cases h3 : z.State = 3
      · exact Ok.p h3 tail
      · exact Ok.n h3 (Ok.p (by omega) tail)
  · exact Ok.ite (fun g => Ok.oe sane29 (Ok.s rfl)) (fun g => Ok.ite (fun g2 => Ok.oe sane29 (Ok.s rfl)) (fun g2 => Ok.ite (fun g3 => Ok.oe sane29 (Ok.s rfl)) (fun g3 => hJ _ ⟨rfl, by omega, fun e => g2 (by rw [e]; rfl), List.eq_nil_iff_length_eq_zero.2 (by omega)⟩)))
end Go.Proofs.YtfhcigjkfelnfaaGreat
