/-
  Pages on their way: what the program's answers compute.
-/
import Derived.Test.YtfhcigjkfelnfaaGreatQRowEscalateStepsF
import Derived.Test.YtfhcigjkfelnfaaGreatQRowEscalateStepsE
set_option maxRecDepth 100000
set_option linter.unusedVariables false
set_option linter.unusedSimpArgs false
namespace Go.Proofs.YtfhcigjkfelnfaaGreat
open Go AM
section
variable {n : Nat} {c : D.Config} {b : D.Book} {p q : D.Page} {now : Int} {a : D.Answer}
theorem due0_is : escalate_Due_0c11c12c13 1000 p = some (dueV p) := by
  unfold escalate_Due_0c11c12c13
  simp only [sameC_p]
  exact due_is
theorem waits0_is {t : Int} : escalate_waits_0c11c12c13 1000 p t = some (waitB p t) := by
  unfold escalate_waits_0c11c12c13 waitB
  simp only [sameC_p]
  rw [due0_is, optc_s]
  obtain ⟨a, d⟩ := dueV p
  cases d <;> by_cases h : a ≤ t <;> simp [AM.cnd, h]
theorem called_is (h : PageLen p) : escalate_Called 1000 p = some (calledV p) := by
  have h1 := h.st
  refine Ok.eq ?_
  unfold escalate_Called calledV
  refine Ok.ite (fun h0 => Ok.s ?_) (fun h0 => ?_)
  · rw [if_pos (List.eq_nil_iff_length_eq_zero.2 (by omega))]
  · have hne : p.Starts ≠ [] := fun e => h0 (by rw [e]; rfl)
    have hpos := List.length_pos_iff.2 hne
    rw [show IntKind.wrap .i64 (((p.Starts.length : Nat) : Int) - 1) = ((p.Starts.length - 1 : Nat) : Int) by rw [wrap_id (by omega)]; omega]
    have hp := (h.pe _ (nth_mem (l := p.Starts) (i := p.Starts.length - 1) (by omega))).1
    refine Ok.atn (by omega) (Ok.oe (cloneI_is (by omega)) (Ok.s ?_))
    rw [if_neg hne]
theorem called0_is (h : PageLen p) : escalate_Called_0c11c12c13 1000 p = some (calledV p) := by
  have h1 := h.st
  refine Ok.eq ?_
  unfold escalate_Called_0c11c12c13 calledV
  refine Ok.ite (fun h0 => Ok.sameC (Ok.sameC (Ok.sameC (Ok.s ?_)))) (fun h0 => ?_)
  · rw [if_pos (List.eq_nil_iff_length_eq_zero.2 (by omega))]
  · have hne : p.Starts ≠ [] := fun e => h0 (by rw [e]; rfl)
    have hpos := List.length_pos_iff.2 hne
    rw [show IntKind.wrap .i64 (((p.Starts.length : Nat) : Int) - 1) = ((p.Starts.length - 1 : Nat) : Int) by rw [wrap_id (by omega)]; omega]
    have hp := (h.pe _ (nth_mem (l := p.Starts) (i := p.Starts.length - 1) (by omega))).1
    refine Ok.natn (Ok.lt (by omega) (Ok.get (by omega) (Ok.oe (cloneI_is (by omega)) (Ok.sameC (Ok.sameC (Ok.sameC (Ok.s ?_)))))))
    rw [if_neg hne]
theorem called_len (h : PageLen p) : (calledV p).length ≤ 40 := by
  unfold calledV
  split
  · simp
  · rename_i hne
    have hpos := List.length_pos_iff.2 hne
    exact (h.pe _ (nth_mem (by omega))).1
theorem refused_is : escalate_refused_0c11c12c13 1000 p a = some (refusedV p a) := by
  refine Ok.eq ?_
  unfold escalate_refused_0c11c12c13
  refine Ok.join (fun y => y.1.1 = decide ((a.Kind = 3 ∧ p.Snoozes = 4) ∨ (a.Kind = 4 ∧ (p.Hands = 4 ∨ p.Starts.length = 200))) ∧ y.2 = (pgA p, a, p.Starts, p.Declined, p.Seen, ())) (fun y hy => ?_) (fun J hJ => ?_)
  · obtain ⟨⟨full, ⟨⟩⟩, r⟩ := y
    obtain ⟨h1, h2⟩ := hy
    dsimp only at h1 h2
    subst h2
    dsimp only [pgA]
    refine Ok.j (Ok.ite (fun g1 => Ok.sameC (Ok.sameC (Ok.sameC (Ok.s ?_)))) (fun g1 => ?_))
    · unfold refusedV; rw [if_pos (.inl g1)]
    refine Ok.oe (waits0_is (p := p)) (Ok.cnd (fun g2 => Ok.sameC (Ok.sameC (Ok.sameC (Ok.s ?_)))) (fun g2 => ?_))
    · unfold refusedV; rw [if_pos (.inr g2)]
    unfold refusedV
    rw [if_neg (by rw [g2]; simp; omega)]
    refine Ok.join (fun y => y.1.1 = full ∧ y.1.2.1 = decide (p.State = 4 ∨ (p.State = 3 ∧ a.Kind ≠ 5) ∨ (p.State = 1 ∧ a.Kind = 2)) ∧ y.2 = (pgA p, p.Starts, p.Declined, p.Seen, ())) (fun y hy => ?_) (fun J hJ => ?_)
    · obtain ⟨⟨f2, s2, ⟨⟩⟩, r⟩ := y
      obtain ⟨k1, k2, k3⟩ := hy
      dsimp only at k1 k2 k3
      subst k3; subst k1
      dsimp only [pgA]
      refine Ok.cnd (fun g3 => Ok.sameC (Ok.sameC (Ok.sameC (Ok.s ?_)))) (fun g3 => ?_)
      · rw [k2] at g3; rw [if_pos (of_decide_eq_true g3)]
      · rw [k2] at g3; rw [if_neg (of_decide_eq_false g3)]
        refine Ok.ite (fun g4 => Ok.sameC (Ok.sameC (Ok.sameC (Ok.s ?_)))) (fun g4 => ?_)
        · rw [if_pos (.inl (by omega))]
        · refine Ok.cnd (fun g5 => Ok.sameC (Ok.sameC (Ok.sameC (Ok.s ?_)))) (fun g5 => Ok.sameC (Ok.sameC (Ok.sameC (Ok.s ?_))))
          · rw [h1] at g5; have := of_decide_eq_true g5; rw [if_pos (.inr this)]
          · rw [h1] at g5; have := of_decide_eq_false g5; rw [if_neg (by omega)]
    · refine Ok.ite (fun g3 => hJ _ ⟨rfl, ?_, rfl⟩) (fun g3 => Ok.ite (fun g4 => Ok.ite (fun g5 => hJ _ ⟨rfl, ?_, rfl⟩) (fun g5 => Ok.ite (fun g6 => Ok.ite (fun g7 => hJ _ ⟨rfl, ?_, rfl⟩) (fun g7 => hJ _ ⟨rfl, ?_, rfl⟩)) (fun g6 => hJ _ ⟨rfl, ?_, rfl⟩))) (fun g4 => Ok.ite (fun g6 => Ok.ite (fun g7 => hJ _ ⟨rfl, ?_, rfl⟩) (fun g7 => hJ _ ⟨rfl, ?_, rfl⟩)) (fun g6 => hJ _ ⟨rfl, ?_, rfl⟩)))
      all_goals (dsimp only; first | exact (decide_eq_true (by omega)).symm | exact (decide_eq_false (by omega)).symm | exact decide_eq_decide.2 (by omega))
  · refine Ok.ite (fun g1 => Ok.ite (fun g2 => hJ _ ⟨?_, rfl⟩) (fun g2 => Ok.ite (fun g3 => Ok.ite (fun g4 => hJ _ ⟨?_, rfl⟩) (fun g4 => Ok.ite (fun g5 => hJ _ ⟨?_, rfl⟩) (fun g5 => hJ _ ⟨?_, rfl⟩))) (fun g3 => hJ _ ⟨?_, rfl⟩)))
      (fun g1 => Ok.ite (fun g3 => Ok.ite (fun g4 => hJ _ ⟨?_, rfl⟩) (fun g4 => Ok.ite (fun g5 => hJ _ ⟨?_, rfl⟩) (fun g5 => hJ _ ⟨?_, rfl⟩))) (fun g3 => hJ _ ⟨?_, rfl⟩))
    all_goals (dsimp only; first | exact (decide_eq_true (by omega)).symm | exact (decide_eq_false (by omega)).symm)
theorem swap_perm {l : List Int} {j : Nat} (h1 : 1 ≤ j) (hj : j < l.length) : (swapL l j).Perm l := by
  unfold swapL
  have e1 : nth l j = l[j] := by simp [nth, List.getD_eq_getElem?_getD, List.getElem?_eq_getElem hj]
  have e2 : nth l (j - 1) = l[j - 1] := by simp [nth, List.getD_eq_getElem?_getD, List.getElem?_eq_getElem (show j - 1 < l.length by omega)]
  rw [e1, e2]
  exact List.set_set_perm hj (by omega)
theorem isort0_ok {l0 : List Int} (hs : l0.length ≤ 900) :
    Ok (slices_insertionSortOrdered_int_0 1000 l0 0 ((l0.length : Nat) : Int)) fun r => r.Perm l0 ∧ SortedTo r l0.length := by
  obtain ⟨m, hm⟩ : ∃ m, l0.length = m := ⟨_, rfl⟩
  rw [hm]
  rw [hm] at hs
  unfold slices_insertionSortOrdered_int_0
  refine Ok.loop (fun q x => ∃ i a, x = ((0, (m : Int), ((i : Nat) : Int), ()), a, ()) ∧ 1 ≤ i ∧ a.Perm l0 ∧ SortedTo a (min i m) ∧ q = m + 1 - i) (m := m) (by omega)
    ⟨1, l0, by rw [wrap_id (by omega)]; rfl, by omega, .refl _, fun a b h1 h2 => by omega, by omega⟩ ?_
  rintro q x ⟨i, a, rfl, h1, h2, h3, rfl⟩ K hK
  have hal := h2.length_eq
  dsimp only
  refine Ok.ite (fun hi => ?_) (fun hi => Ok.s ⟨h2, by rw [show min i m = m by omega] at h3; exact h3⟩)
  have hlt : i < m := by omega
  rw [show min i m = i by omega] at h3
  refine Ok.j ?_
  refine Ok.loop (fun q x => ∃ j a', x = ((0, (m : Int), ((i : Nat) : Int), ((j : Nat) : Int), ()), a', ()) ∧ j ≤ i ∧ a'.Perm l0 ∧ ButFor a' (i + 1) j ∧ q = j) (m := i) (by omega)
    ⟨i, a, rfl, by omega, h2, butfor_start h3, rfl⟩ ?_
  rintro q x ⟨j, a', rfl, g1, g2, g3, hqj⟩ K2 hK2
  have hal' := g2.length_eq
  dsimp only
  have fin : (j = 0 ∨ nth a' (j - 1) ≤ nth a' j) → Ok (K ((0, (m : Int), IntKind.wrap .i64 ((i : Int) + 1), ()), a', ())) fun r => r.Perm l0 ∧ SortedTo r m := fun he => by
    rw [wrap_succ (by omega)]
    exact hK (m + 1 - (i + 1)) _ (by omega) ⟨i + 1, a', rfl, by omega, g2, by rw [show min (i + 1) m = i + 1 by omega]; exact butfor_end g3 he, rfl⟩
  refine Ok.j (Ok.ite (fun hj => ?_) (fun hj => fin (.inl (by omega))))
  have hw : IntKind.wrap .i64 ((j : Int) - 1) = ((j - 1 : Nat) : Int) := by rw [wrap_id (by omega)]; omega
  rw [hw]
  refine Ok.natn (Ok.lt (by omega) (Ok.get (by omega) (Ok.natn (Ok.lt (by omega) (Ok.get (by omega) (Ok.oe less_is (Ok.ite (fun hless => ?_) (fun hless => fin (.inr (by omega))))))))))
  dsimp only
  rw [hw]
  refine Ok.natn (Ok.lt (by omega) (Ok.get (by omega) (Ok.natn (Ok.lt (by omega) (Ok.get (by omega) (Ok.natn (Ok.lt (by omega) (Ok.get (by omega) (Ok.natn (Ok.lt (by simp; omega) (Ok.get (by simp; omega) ?_)))))))))))
  have hsw : (a'.set j (nth a' (j - 1))).set (j - 1) (nth a' j) = swapL a' j := rfl
  rw [hsw]
  exact hK2 (j - 1) _ (by omega) ⟨j - 1, swapL a' j, rfl, by omega, (swap_perm (by omega) (by omega)).trans g2, butfor_step g3 (by omega) (by omega) (by omega) hless, rfl⟩
theorem sort0_ok {l0 : List Int} (hs : l0.length ≤ 12) :
    Ok (slices_Sort_int_0 1000 l0) fun r => r.Perm l0 ∧ SortedTo r l0.length := by
  unfold slices_Sort_int_0
  obtain ⟨bv, hb⟩ := Option.isSome_iff_exists.1 (bits_ok l0.length (by omega))
  refine Ok.oe hb (Ok.opt (P := fun r => r.Perm l0 ∧ SortedTo r l0.length) ?_ fun r hr => Ok.ck hr.1.length_eq (Ok.s hr))
  unfold slices_pdqsortOrdered_int_0
  refine Ok.loop (fun q x => x = ((0, ((l0.length : Nat) : Int), bv, true, true, ()), l0, ())) (m := 0) (by omega) rfl ?_
  rintro q x rfl K hK
  dsimp only
  refine Ok.p (by rw [wrap_id (by omega)]; omega) (Ok.opt (isort0_ok (by omega)) fun r hr => Ok.ck hr.1.length_eq (Ok.s hr))
theorem asc_sorted {l : List Int} (h : SortedTo l l.length) (hd : l.Nodup) : Asc l := by
  refine asc_of h fun k h1 h2 e => ?_
  have e1 : nth l (k - 1) = l[k - 1] := by simp [nth, List.getD_eq_getElem?_getD, List.getElem?_eq_getElem (show k - 1 < l.length by omega)]
  have e2 : nth l k = l[k] := by simp [nth, List.getD_eq_getElem?_getD, List.getElem?_eq_getElem h2]
  rw [e1, e2] at e
  have := (List.nodup_iff_pairwise_ne.1 hd)
  exact (List.pairwise_iff_getElem.1 this (k - 1) k (by omega) h2 (by omega)) e
theorem asc_nodup {l : List Int} (h : Asc l) : l.Nodup := List.Pairwise.imp (fun h => by omega) h
theorem sort_plus {l r : List Int} {x : Int} (hl : Asc l) (hx : l.contains x = false) (hp : r.Perm (l ++ [x])) (hs : SortedTo r r.length) : r = plusV l x := by
  have hnd : (l ++ [x]).Nodup := List.nodup_append.2 ⟨asc_nodup hl, by simp, fun y hy z hz e => by
    rw [List.mem_singleton.1 hz] at e
    subst e
    rw [List.contains_iff_mem.2 hy] at hx; simp at hx⟩
  refine asc_ext (asc_sorted hs (hp.nodup_iff.2 hnd)) (plusV_is hl).1 fun z => ?_
  rw [hp.mem_iff, (plusV_is hl).2]; simp
theorem decl1_is {x : Int} (h : p.Declined.length ≤ 40) : escalate_declined_1_b11_12_13 1000 x p = some (!p.Declined.contains x, p) := by
  unfold escalate_declined_1_b11_12_13
  rw [contains0_is (by omega), optc_s]
theorem containsD_is {l : List Int} (hl : l.length ≤ 900) (h : p.Declined.length ≤ 40) : slices_ContainsFunc_int_1Fescalate_declined_1b11_12_13 1000 l p = some (l.any fun z => !p.Declined.contains z, p) := by
  refine Ok.eq ?_
  unfold slices_ContainsFunc_int_1Fescalate_declined_1b11_12_13 slices_IndexFunc_int_1Fescalate_declined_1b11_12_13
  refine Ok.opt (P := fun (r : Int × D.Page) => decide (0 ≤ r.1) = (l.any fun z => !p.Declined.contains z) ∧ r.2 = p) ?_ fun ⟨r, p'⟩ ⟨e1, e2⟩ => Ok.s (by dsimp only at e1 e2; rw [e1, e2])
  refine Ok.scan2 l.length (fun i => (l, ((l.length : Nat) : Int), (i : Int), ())) (fun i => !p.Declined.contains (nth l i)) rfl (by omega) (fun i hi hq _ k => ?_) (fun i hi hq k hk => ?_) (fun hq k => ?_)
  · refine Ok.p (by omega) (Ok.atn hi (Ok.oe (decl1_is (p := p) h) (Ok.bt hq (Ok.s ⟨?_, rfl⟩))))
    rw [any_yes hi hq]; simp
  · refine Ok.p (by omega) (Ok.atn hi (Ok.oe (decl1_is (p := p) h) (Ok.bf hq ?_)))
    rw [wrap_succ (by omega)]; exact hk
  · refine Ok.n (by omega) (Ok.s ⟨?_, rfl⟩)
    rw [any_no hq]; rfl
theorem declQ_len (hs : setV p.Declined = true) (hd : p.Declined.length ≤ 11) : (declQ p a).length ≤ 40 := by
  unfold declQ
  split
  · have hde := setV_is.1 hs
    unfold plusV
    have h1 := List.length_filter_le (fun z => decide (z < a.Person)) p.Declined
    have h2 := List.length_filter_le (fun z => decide (a.Person < z)) p.Declined
    simp only [List.length_append, List.length_cons]; omega
  · omega
theorem declined_is (h : PageLen p) (hd : p.Declined.length ≤ 11) (hs : setV p.Declined = true) :
    escalate_declined_0c11c12c13 1000 p a = some { p with Declined := declQ p a, Due := if allDown p a = true ∧ p.State = 0 then a.At else p.Due } := by
  have hcl := called_len h
  refine Ok.eq ?_
  unfold escalate_declined_0c11c12c13
  refine Ok.oe (called0_is h) ?_
  refine Ok.join (fun y => y = ((calledV p, ()), pgA p, a, page0, p.Starts, declQ p a, p.Seen, ())) (fun y hy => ?_) (fun J hJ => ?_)
  · subst hy
    dsimp only [pgA]
    have hdl := declQ_len (a := a) hs hd
    refine Ok.j (Ok.ite (fun g1 => Ok.ite (fun g2 => ?_) (fun g2 => Ok.s ?_)) (fun g1 => Ok.s ?_))
    · refine Ok.oe (containsD_is (p := { p with Declined := declQ p a }) (by omega) hdl) (Ok.cnd (fun g3 => Ok.s ?_) (fun g3 => Ok.s ?_))
      · have : allDown p a = false := by
          unfold allDown
          rw [Bool.and_eq_false_iff]
          refine .inr ?_
          obtain ⟨z, hz1, hz2⟩ := List.any_eq_true.1 g3
          refine List.all_eq_false.2 ⟨z, hz1, ?_⟩
          simpa using hz2
        rw [this, if_neg (by simp)]
      · have : allDown p a = true := by
          unfold allDown
          rw [Bool.and_eq_true]
          refine ⟨decide_eq_true fun e => by rw [e] at g2; simp at g2, List.all_eq_true.2 fun z hz => ?_⟩
          have := List.any_eq_false.1 g3 z hz
          simpa using this
        rw [this, if_pos ⟨rfl, g1⟩]
    · have : allDown p a = false := by
        unfold allDown
        rw [decide_eq_false (fun hne => hne (List.eq_nil_iff_length_eq_zero.2 (by omega)))]; rfl
      rw [this, if_neg (by simp)]
    · rw [if_neg (fun hx => g1 hx.2)]
  · refine Ok.oe (contains_is (by omega)) (Ok.cnd (fun g1 => ?_) (fun g1 => ?_))
    · refine Ok.oe (contains0_is (by omega)) (Ok.cnd (fun g2 => ?_) (fun g2 => ?_))
      · refine hJ _ ?_
        have : declQ p a = p.Declined := by
          unfold declQ
          rw [if_pos g1]; exact plusV_old (setV_is.1 hs).1 (List.contains_iff_mem.1 g2)
        rw [this]; rfl
      · refine Ok.lec (by simp; omega) (Ok.opt (sort0_ok (by simp; omega)) fun r ⟨hr1, hr2⟩ => Ok.ck hr1.length_eq (hJ _ ?_))
        have : r = declQ p a := by
          unfold declQ
          rw [if_pos g1]
          exact sort_plus (setV_is.1 hs).1 g2 hr1 (by rw [hr1.length_eq]; exact hr2)
        rw [this]; rfl
    · refine hJ _ ?_
      have : declQ p a = p.Declined := by unfold declQ; rw [if_neg (by rw [g1]; simp)]
      rw [this]; rfl
theorem answer_is (hb : BookOK b) (h : PageLen p) (hd : p.Declined.length ≤ 11) : escalate_Answer 1000 c b p a = some (answerV b p a) := by
  have hse := h.se; have hst := h.st
  refine Ok.eq ?_
  unfold escalate_Answer
  refine Ok.join (fun y => y = ((), p, a, page0, ()) ∧ checkV b p = true ∧ validV a = true) (fun y hy => ?_) (fun J hJ => ?_)
  · obtain ⟨rfl, hc, hv⟩ := hy
    dsimp only
    unfold answerV
    rw [if_neg (by rw [hc, hv]; simp)]
    have hf := checkV_facts hc
    have hv' := hv
    unfold validV at hv'
    simp only [Bool.and_eq_true, inV_is] at hv'
    obtain ⟨⟨⟨⟨⟨v1, v2⟩, v3⟩, v4⟩, v5⟩, v6⟩ := hv'
    have hsn := hf.snoozes; have hha := hf.hands
    refine Ok.ite (fun g1 => Ok.s ?_) (fun g1 => ?_)
    · rw [if_pos g1]; rfl
    rw [if_neg g1]
    refine Ok.oe (copied_is h) (Ok.oe (contains0_is (by omega)) (Ok.cnd (fun g2 => Ok.s ?_) (fun g2 => ?_)))
    · rw [if_pos g2]
    rw [if_neg (by rw [g2]; simp)]
    refine Ok.oe refused_is (Ok.ite (fun g3 => Ok.s ?_) (fun g3 => ?_))
    · rw [if_pos g3]; rfl
    rw [if_neg g3]
    refine Ok.lec (by simp; omega) ?_
    refine Ok.join (fun y => y = ((), pgA p, a, page0, p.Starts, p.Declined, p.Seen ++ [a.ID], ()) ∧ ¬ (a.Kind = 1 ∧ p.State = 1)) (fun y hy => ?_) (fun J hJ => ?_)
    · obtain ⟨rfl, hn⟩ := hy
      dsimp only [pgA]
      unfold answerQ
      refine Ok.j (Ok.ite (fun k1 => Ok.s ?_) (fun k1 => Ok.ite (fun k2 => ?_) (fun k2 => Ok.ite (fun k3 => Ok.s ?_) (fun k3 => Ok.ite (fun k4 => Ok.lec (by simp; omega) (Ok.s ?_)) (fun k4 => Ok.ite (fun k5 => Ok.s ?_) (fun k5 => absurd v5 (by omega)))))))
      · rw [if_pos k1, if_neg (by omega)]
      · rw [if_neg k1, if_pos k2]
        have hp' : PageLen { p with Last := a.At, Seen := p.Seen ++ [a.ID] } := ⟨h.st, h.pe, h.de, by have := hf.seen; dsimp only; simp; omega, h.nx⟩
        exact Ok.oe (declined_is (p := { p with Last := a.At, Seen := p.Seen ++ [a.ID] }) hp' hd hf.declined) (Ok.s rfl)
      · rw [if_neg k1, if_neg k2, if_pos k3]
        rw [if_pos k3] at v6
        have v6 := inV_is.1 v6
        rw [wrap_id (by omega), wrap_id (by omega)]
      · rw [if_neg k1, if_neg k2, if_neg k3, if_pos k4, wrap_id (by omega), wrap_id (by omega)]
      · rw [if_neg k1, if_neg k2, if_neg k3, if_neg k4]
    · refine Ok.ite (fun k1 => Ok.ite (fun k2 => Ok.s ?_) (fun k2 => hJ _ ⟨rfl, by omega⟩)) (fun k1 => hJ _ ⟨rfl, by omega⟩)
      unfold answerQ
      rw [if_pos k1, if_pos k2]
  · refine Ok.oe (check_is hb h) (Ok.cnd (fun g1 => Ok.oe valid_is (Ok.cnd (fun g2 => hJ _ ⟨rfl, g1, g2⟩) (fun g2 => Ok.s ?_))) (fun g1 => Ok.s ?_))
    · unfold answerV; rw [if_pos (.inr g2)]; rfl
    · unfold answerV; rw [if_pos (.inl g1)]; rfl
end
end Go.Proofs.YtfhcigjkfelnfaaGreat
/-
  Pages on their way: what the reference's answers compute; pages compared.
-/
set_option maxRecDepth 100000
set_option linter.unusedVariables false
set_option linter.unusedSimpArgs false
namespace Go.Proofs.YtfhcigjkfelnfaaGreat
open Go AM
section
variable {n : Nat} {c : D.Config} {b : D.Book} {p q : D.Page} {now : Int} {a : D.Answer}
theorem valid28_is : r28_Valid 1000 a = some (validV a) := by
  refine Ok.eq ?_
  unfold r28_Valid
  refine Ok.j (Ok.oe rin (Ok.cnd (fun h1 => Ok.oe rin (Ok.cnd (fun h2 => Ok.oe rin (Ok.cnd (fun h3 => Ok.oe rin (Ok.cnd (fun h4 => ?_) (fun h4 => Ok.s ?_))) (fun h3 => Ok.s ?_))) (fun h2 => Ok.s ?_))) (fun h1 => Ok.s ?_)))
  · dsimp only
    refine Ok.join (fun y => y.1.1 = a.Kind ∧ y.1.2.1 = decide (a.Kind = 1 ∨ a.Kind = 2 ∨ a.Kind = 5) ∧ y.2 = (a, ())) (fun y hy => ?_) (fun J hJ => ?_)
    · obtain ⟨⟨k, z, ⟨⟩⟩, r⟩ := y
      obtain ⟨e1, e2, e3⟩ := hy
      dsimp only at e1 e2 e3
      subst e3; subst e1
      dsimp only
      refine Ok.cnd (fun g => Ok.s ?_) (fun g => Ok.ite (fun k3 => Ok.oe rin (Ok.s ?_)) (fun k3 => Ok.ite (fun k4 => Ok.oe rin (Ok.s ?_)) (fun k4 => Ok.s ?_)))
      · rw [e2] at g
        have g := of_decide_eq_true g
        have hk : inV a.Kind 1 5 = true := inV_is.2 (by omega)
        unfold validV
        rw [if_neg (by omega), if_neg (by omega), h1, h2, h3, h4, hk]; rfl
      · have hk : inV a.Kind 1 5 = true := inV_is.2 (by omega)
        unfold validV
        rw [if_pos k3, h1, h2, h3, h4, hk]; rfl
      · have hk : inV a.Kind 1 5 = true := inV_is.2 (by omega)
        unfold validV
        rw [if_neg k3, if_pos k4, h1, h2, h3, h4, hk]; rfl
      · rw [e2] at g
        have g := of_decide_eq_false g
        have hk : inV a.Kind 1 5 = false := Bool.eq_false_iff.2 fun h => by have := inV_is.1 h; omega
        unfold validV
        rw [hk]; simp
    · refine Ok.ite (fun g1 => hJ _ ⟨rfl, ?_, rfl⟩) (fun g1 => Ok.ite (fun g2 => hJ _ ⟨rfl, ?_, rfl⟩) (fun g2 => hJ _ ⟨rfl, ?_, rfl⟩))
      all_goals exact decide_eq_decide.2 (by omega)
  · unfold validV; rw [h4]; simp
  · unfold validV; rw [h3]; simp
  · unfold validV; rw [h2]; simp
  · unfold validV; rw [h1]; simp
theorem refused29_is (hf : CkF b p) : r29_refused 1000 p a = some (refusedV p a) := by
  have hs1 := hf.seen; have hs2 := hf.snoozes; have hs3 := hf.hands; have hs4 := hf.starts
  refine Ok.eq ?_
  unfold r29_refused
  refine Ok.oe due29_is ?_
  rcases hdv : dueV p with ⟨da, dd⟩
  dsimp only
  refine Ok.j (Ok.ite (fun g1 => Ok.s ?_) (fun g1 => Ok.cnd (fun g2 => Ok.ite (fun g3 => Ok.s ?_) (fun g3 => ?_)) (fun g2 => ?_)))
  · unfold refusedV; rw [if_pos (.inl g1)]
  · unfold refusedV; rw [if_pos (.inr (by unfold waitB; rw [hdv, g2]; simp; omega))]
  all_goals
    have hw : waitB p a.At = false := by
      unfold waitB
      rw [hdv, g2]
      first | rfl | (simp; omega)
    unfold refusedV
    rw [if_neg (by rw [hw]; simp; omega)]
    refine Ok.join (fun y => y.1.1 = decide (p.State = 4 ∨ (p.State = 3 ∧ a.Kind ≠ 5) ∨ (p.State = 1 ∧ a.Kind = 2)) ∧ y.2 = (p, a, ())) (fun y hy => ?_) (fun J hJ => ?_)
    · obtain ⟨⟨s2, ⟨⟩⟩, r⟩ := y
      obtain ⟨k2, k3⟩ := hy
      dsimp only at k2 k3
      subst k3
      dsimp only
      refine Ok.cnd (fun g3 => Ok.s ?_) (fun g3 => ?_)
      · rw [k2] at g3; rw [if_pos (of_decide_eq_true g3)]
      · rw [k2] at g3; rw [if_neg (of_decide_eq_false g3)]
        refine Ok.join (fun y => y.1.1 = decide (p.Seen.length = 64 ∨ (a.Kind = 3 ∧ p.Snoozes = 4) ∨ (a.Kind = 4 ∧ (p.Hands = 4 ∨ p.Starts.length = 200)))) (fun y hy => ?_) (fun J hJ => ?_)
        · obtain ⟨⟨s3, ⟨⟩⟩, ⟨⟩⟩ := y
          dsimp only at hy ⊢
          refine Ok.cnd (fun g4 => Ok.s ?_) (fun g4 => Ok.s ?_)
          · rw [hy] at g4; rw [if_pos (of_decide_eq_true g4)]
          · rw [hy] at g4; rw [if_neg (of_decide_eq_false g4)]
        · refine Ok.ite (fun g4 => hJ _ ?_) (fun g4 => Ok.ite (fun g5 => Ok.ite (fun g6 => hJ _ ?_) (fun g6 => Ok.ite (fun g7 => Ok.ite (fun g8 => hJ _ ?_) (fun g8 => Ok.ite (fun g9 => hJ _ ?_) (fun g9 => hJ _ ?_))) (fun g7 => hJ _ ?_))) (fun g5 => Ok.ite (fun g7 => Ok.ite (fun g8 => hJ _ ?_) (fun g8 => Ok.ite (fun g9 => hJ _ ?_) (fun g9 => hJ _ ?_))) (fun g7 => hJ _ ?_)))
          all_goals (dsimp only; first | exact (decide_eq_true (by omega)).symm | exact (decide_eq_false (by omega)).symm | exact decide_eq_decide.2 (by omega))
    · refine Ok.ite (fun g3 => hJ _ ⟨?_, rfl⟩) (fun g3 => Ok.ite (fun g4 => Ok.ite (fun g5 => hJ _ ⟨?_, rfl⟩) (fun g5 => Ok.ite (fun g6 => Ok.ite (fun g7 => hJ _ ⟨?_, rfl⟩) (fun g7 => hJ _ ⟨?_, rfl⟩)) (fun g6 => hJ _ ⟨?_, rfl⟩))) (fun g4 => Ok.ite (fun g6 => Ok.ite (fun g7 => hJ _ ⟨?_, rfl⟩) (fun g7 => hJ _ ⟨?_, rfl⟩)) (fun g6 => hJ _ ⟨?_, rfl⟩)))
      all_goals (dsimp only; first | exact (decide_eq_true (by omega)).symm | exact (decide_eq_false (by omega)).symm | exact decide_eq_decide.2 (by omega))
theorem with25_plus {l : List Int} {x : Int} (hl : l.length ≤ 400) (h : Asc l) : r25_With 1000 l x = some (plusV l x) := by
  rw [withR hl]
  congr 1
  exact asc_ext (withV_is h).1 (plusV_is h).1 fun z => by rw [(withV_is h).2, (plusV_is h).2]
theorem answer29_is (hb : BookOK b) (h : PageLen p) : r29_Answer 1000 c b p a = some (answerV b p a) := by
  have hse := h.se; have hst := h.st; have hde := h.de
  refine Ok.eq ?_
  unfold r29_Answer
  refine Ok.join (fun y => y = ((), p, a, page0, ()) ∧ checkV b p = true ∧ validV a = true) (fun y hy => ?_) (fun J hJ => ?_)
  · obtain ⟨rfl, hc, hv⟩ := hy
    dsimp only
    unfold answerV
    rw [if_neg (by rw [hc, hv]; simp)]
    have hf := checkV_facts hc
    have hv' := hv
    unfold validV at hv'
    simp only [Bool.and_eq_true, inV_is] at hv'
    obtain ⟨⟨⟨⟨⟨v1, v2⟩, v3⟩, v4⟩, v5⟩, v6⟩ := hv'
    have hsn := hf.snoozes; have hha := hf.hands
    refine Ok.ite (fun g1 => Ok.s ?_) (fun g1 => ?_)
    · rw [if_pos g1]; rfl
    rw [if_neg g1]
    refine Ok.oe (copy29_is h) (Ok.oe (has25_is (by omega)) (Ok.cnd (fun g2 => Ok.s ?_) (fun g2 => ?_)))
    · rw [if_pos g2]
    rw [if_neg (by rw [g2]; simp)]
    refine Ok.oe (refused29_is hf) (Ok.ite (fun g3 => Ok.s ?_) (fun g3 => ?_))
    · rw [if_pos g3]; rfl
    rw [if_neg g3]
    refine Ok.lec (by simp; omega) (Ok.j ?_)
    unfold answerQ
    refine Ok.ite (fun k1 => Ok.ite (fun k2 => Ok.s ?_) (fun k2 => Ok.s ?_)) (fun k1 => Ok.ite (fun k2 => ?_) (fun k2 => Ok.ite (fun k3 => Ok.s ?_) (fun k3 => Ok.ite (fun k4 => Ok.lec (by simp; omega) (Ok.s ?_)) (fun k4 => Ok.ite (fun k5 => Ok.s ?_) (fun k5 => absurd v5 (by omega))))))
    · rw [if_pos k1, if_pos k2]
    · rw [if_pos k1, if_neg k2]
    · rw [if_neg k1, if_pos k2]
      have hcl := called_len h
      refine Ok.oe (called29_is h) ?_
      refine Ok.join (fun y => y = ((calledV p, ()), p, a, page0, (p.ID, p.Policy, p.Start, p.Next, p.Due, p.State, p.By, p.Until, a.At, p.Snoozes, p.Hands, declQ p a, ()), p.Starts, p.Seen ++ [a.ID], ())) (fun y hy => ?_) (fun J hJ => ?_)
      · subst hy
        dsimp only
        have hdl : (declQ p a).length ≤ 900 := by
          unfold declQ plusV
          split
          · have h1 := List.length_filter_le (fun z => decide (z < a.Person)) p.Declined
            have h2 := List.length_filter_le (fun z => decide (a.Person < z)) p.Declined
            simp only [List.length_append, List.length_cons]; omega
          · omega
        obtain ⟨aD, haD⟩ : ∃ aD : Nat → Bool, ∀ i, aD i = (decide ((0 : Int) < (((calledV p).length : Nat) : Int)) && ((calledV p).take i).all fun z => (declQ p a).contains z) := ⟨fun i => _, fun i => rfl⟩
        have hall : ∀ i, i < (calledV p).length → aD (i + 1) = (aD i && (declQ p a).contains (nth (calledV p) i)) := fun i hi => by
          rw [haD, haD, ← take_snoc' hi, List.all_append, Bool.and_assoc]
          simp
        have hlast : allDown p a = aD (calledV p).length := by
          rw [haD, List.take_length]
          unfold allDown
          congr 1
          refine decide_eq_decide.2 ⟨fun hne => by have := List.length_pos_iff.2 hne; omega, fun hpos e => by rw [e] at hpos; simp at hpos⟩
        refine Ok.run2 (calledV p).length (fun i => (calledV p, aD i, (i : Int), ())) (by rw [haD]; simp) (by omega) (fun i hi k hk => ?_) (fun k => ?_)
        · dsimp only at hk ⊢
          rw [hall i hi] at hk
          refine Ok.p (by omega) (Ok.j (Ok.cnd (fun g => Ok.atn hi (Ok.oe (has25_is hdl) (Ok.cnd (fun g' => ?_) (fun g' => ?_)))) (fun g => ?_)))
          · dsimp only
            rw [wrap_succ (by omega)]
            rw [g, g'] at hk; exact hk
          · dsimp only
            rw [wrap_succ (by omega)]
            rw [g, g'] at hk; exact hk
          · dsimp only
            rw [wrap_succ (by omega)]
            rw [g] at hk; exact hk
        · dsimp only
          rw [hlast]
          refine Ok.n (by omega) (Ok.cnd (fun g => Ok.ite (fun g0 => Ok.s ?_) (fun g0 => Ok.s ?_)) (fun g => Ok.s ?_))
          · rw [if_pos ⟨g, g0⟩]
          · rw [if_neg (fun hx => g0 hx.2)]
          · rw [if_neg (by rw [g]; simp)]
      · refine Ok.oe (has25_is (by omega)) (Ok.cnd (fun g4 => ?_) (fun g4 => ?_))
        · have hd := (setV_is.1 hf.declined).1
          refine Ok.oe (with25_plus (by omega) hd) (hJ _ ?_)
          have : declQ p a = plusV p.Declined a.Person := by unfold declQ; rw [if_pos g4]
          rw [this]
        · refine hJ _ ?_
          have : declQ p a = p.Declined := by unfold declQ; rw [if_neg (by rw [g4]; simp)]
          rw [this]
    · rw [if_neg k1, if_neg k2, if_pos k3]
      rw [if_pos k3] at v6
      have v6 := inV_is.1 v6
      rw [wrap_id (by omega), wrap_id (by omega)]
    · rw [if_neg k1, if_neg k2, if_neg k3, if_pos k4, wrap_id (by omega), wrap_id (by omega)]
    · rw [if_neg k1, if_neg k2, if_neg k3, if_neg k4]
  · refine Ok.oe (check29_is hb h) (Ok.cnd (fun g1 => Ok.oe valid28_is (Ok.cnd (fun g2 => hJ _ ⟨rfl, g1, g2⟩) (fun g2 => Ok.s ?_))) (fun g1 => Ok.s ?_))
    · unfold answerV; rw [if_pos (.inr g2)]; rfl
    · unfold answerV; rw [if_pos (.inl g1)]; rfl
theorem sameS_refl {l : List D.Start} (hl : l.length ≤ 900) (h : ∀ s ∈ l, s.People.length ≤ 900) : r29_SameStarts 1000 l l = some true := by
  refine Ok.eq ?_
  unfold r29_SameStarts
  refine Ok.n (by simp) (Ok.run l.length (fun i => ((l, l, (i : Int), ()), ())) rfl (by omega) (fun i hi k hk => ?_) (fun k => Ok.n (by omega) (Ok.s rfl)))
  dsimp only
  have hs := h _ (nth_mem hi)
  refine Ok.p (by omega) (Ok.j (Ok.atn hi (Ok.atn hi (Ok.n (by simp) (Ok.atn hi (Ok.atn hi (Ok.n (by simp) (Ok.atn hi (Ok.atn hi (Ok.oe (same_is hs) ?_))))))))))
  rw [decide_eq_true rfl]
  refine Ok.t ?_
  dsimp only
  rw [wrap_succ (by omega)]
  exact hk
theorem sameP_refl (h : PageLen p) : r29_Same 1000 p p = some true := by
  have h1 := h.st; have h2 := h.de; have h3 := h.se
  unfold r29_Same
  rw [sameS_refl (by omega) (fun s hs => by have := (h.pe s hs).1; omega), same_is (by omega), same_is (by omega)]
  simp only [decide_true, AM.cnd, AM.optc]
end
end Go.Proofs.YtfhcigjkfelnfaaGreat
/-
  What else is kept of made pages: who declined, which answers were seen. Plain Lean.
-/
set_option maxRecDepth 100000
set_option linter.unusedVariables false
set_option linter.unusedSimpArgs false
namespace Go.Proofs.YtfhcigjkfelnfaaGreat
open Go AM
section
variable {n : Nat} {c : D.Config} {b : D.Book} {p q : D.Page} {now k M : Int} {a : D.Answer} {Q : Int → D.Start → Prop}
structure PgX (k : Int) (p : D.Page) : Prop where
  decl : ∀ x ∈ p.Declined, x < 4
  seen : ∀ x ∈ p.Seen, 1 ≤ x ∧ x ≤ k
theorem PgX.mono {k' : Int} (h : PgX k p) (hk : k ≤ k') : PgX k' p := ⟨h.decl, fun x hx => ⟨(h.seen x hx).1, Int.le_trans (h.seen x hx).2 hk⟩⟩
theorem PgX.step (h : PgX k p) : PgX k (stepQ c b p) := by
  unfold stepQ
  split
  · exact ⟨h.decl, h.seen⟩
  · split
    · exact ⟨h.decl, h.seen⟩
    · exact ⟨by simp, h.seen⟩
theorem PgX.run (h : PgX k p) (hb : BookOK b) (hQ : StepQ Q M c b) (hi : PageInv Q M b p) : PgX k (runV c b p now).1 :=
  runV_ind hb hQ (fun q _ _ hr => hr.step) hi h
theorem plusV_mem {l : List Int} {x z : Int} (h : z ∈ plusV l x) : z ∈ l ∨ z = x := by
  unfold plusV at h
  rcases List.mem_append.1 h with h | h
  · exact .inl (List.mem_filter.1 h).1
  · rcases List.mem_cons.1 h with h | h
    · exact .inr h
    · exact .inl (List.mem_filter.1 h).1
theorem PgX.answer (h : PgX k p) (ha : a.Person < 4) (hi : 1 ≤ a.ID ∧ a.ID ≤ k) : PgX k (answerQ p a) := by
  have hs : ∀ x ∈ p.Seen ++ [a.ID], 1 ≤ x ∧ x ≤ k := mem_snoc h.seen hi
  have hd : ∀ x ∈ declQ p a, x < 4 := by
    unfold declQ
    split
    · intro x hx
      rcases plusV_mem hx with hx | rfl
      · exact h.decl x hx
      · exact ha
    · exact h.decl
  unfold answerQ
  split
  · split
    · exact ⟨h.decl, hs⟩
    · exact ⟨h.decl, hs⟩
  · split
    · exact ⟨hd, hs⟩
    · split
      · exact ⟨h.decl, hs⟩
      · split
        · exact ⟨by simp, hs⟩
        · exact ⟨h.decl, hs⟩
theorem PgX.dlen (h : PgX k p) (hi : setV p.Declined = true) : p.Declined.length ≤ 4 := by
  have hs := setV_is.1 hi
  exact asc4_len hs.1 fun z hz => ⟨(hs.2 z hz).1, h.decl z hz⟩
theorem PgX.new {id pol start : Int} : PgX k (newP id pol start) := ⟨by simp [newP], by simp [newP]⟩
end
end Go.Proofs.YtfhcigjkfelnfaaGreat
/-
  How the statements begin: light inputs, dice.
-/
set_option linter.unusedVariables false
namespace Go.Proofs.YtfhcigjkfelnfaaGreat
open Go AM
theorem light_is {t : List Int} : made_Light 1000 t = some (decide (((t.length : Nat) : Int) ≤ 500)) := rfl
theorem roll_is {t : List Int} : made_Roll 1000 t = some ⟨t, 0⟩ := rfl
theorem dice0 {t : List Int} : DiceOK t ⟨t, 0⟩ := ⟨rfl, Int.le_refl _, by dsimp only; omega⟩
theorem light_len {t : List Int} (h : decide (((t.length : Nat) : Int) ≤ 500) = true) : t.length ≤ 500 := by have := of_decide_eq_true h; omega
end Go.Proofs.YtfhcigjkfelnfaaGreat
/-
  Pages and answers that are made by dice: what holds of them.
-/
set_option maxRecDepth 100000
set_option linter.unusedVariables false
set_option linter.unusedSimpArgs false
namespace Go.Proofs.YtfhcigjkfelnfaaGreat
open Go AM
attribute [local irreducible] dueV stepV runV checkV answerV
section
variable {n : Nat} {c : D.Config} {b : D.Book} {p q : D.Page} {now k M : Int} {a : D.Answer} {Q : Int → D.Start → Prop} {L : List Int} {d : D.Dice}
structure AnsOK (a : D.Answer) : Prop where
  pers : -1 ≤ a.Person ∧ a.Person < 4
  kind : 1 ≤ a.Kind ∧ a.Kind ≤ 5
  arg3 : a.Kind = 3 → 1 ≤ a.Arg ∧ a.Arg ≤ 5000
  arg4 : a.Kind = 4 → 0 ≤ a.Arg ∧ a.Arg < 4
  arg0 : a.Kind ≠ 3 → a.Kind ≠ 4 → a.Arg = 0
theorem AnsOK.valid (h : AnsOK a) (h1 : 1 ≤ a.ID ∧ a.ID ≤ 999999) (h2 : 1 ≤ a.Page ∧ a.Page ≤ 999999) (h3 : 0 ≤ a.At ∧ a.At ≤ 8589934592) : validV a = true := by
  have hp := h.pers; have hk := h.kind
  unfold validV
  rw [inV_is.2 h1, inV_is.2 h2, inV_is.2 (show -1 ≤ a.Person ∧ a.Person ≤ 31 by omega), inV_is.2 h3, inV_is.2 hk]
  simp only [Bool.true_and]
  split
  · rename_i k3; have := h.arg3 k3; exact inV_is.2 (by omega)
  · split
    · rename_i k4; have := h.arg4 k4; exact inV_is.2 (by omega)
    · rename_i k3 k4; exact decide_eq_true (h.arg0 k3 k4)
theorem answer_ok {id page at_ : Int} (hL : L.length ≤ 500) (hd : DiceOK L d) : Ok (made_Dice_Answer 1000 d id page at_) fun r => DiceOK L r.2 ∧ AnsOK r.1 ∧ r.1.ID = id ∧ r.1.Page = page ∧ r.1.At = at_ := by
  unfold made_Dice_Answer
  refine Ok.opt (nx hL hd (by omega) (by omega)) fun ⟨a0, d1⟩ ⟨h1, l1, u1⟩ => ?_
  dsimp only at h1 l1 u1 ⊢
  refine Ok.opt (nx hL h1 (by omega) (by omega)) fun ⟨a2, d3⟩ ⟨h3, l3, u3⟩ => ?_
  dsimp only at h3 l3 u3 ⊢
  rw [wrap_id (x := 1 + a2) (by omega), wrap_id (x := a0 - 1) (by omega)]
  refine Ok.j (Ok.ite (fun g => ?_) (fun g => Ok.ite (fun g' => ?_) (fun g' => ?_)))
  · refine Ok.opt (one_ok hL h3 (by simp) (by simp)) fun ⟨a8, d9⟩ ⟨h9, m9⟩ => Ok.s ⟨h9, ⟨by dsimp only; omega, by dsimp only; omega, fun _ => ?_, fun e => ?_, fun e => absurd g e⟩, rfl, rfl, rfl⟩
    · dsimp only at m9 ⊢
      simp only [List.mem_cons, List.not_mem_nil, or_false] at m9
      omega
    · dsimp only at e; omega
  · refine Ok.opt (nx hL h3 (by omega) (by omega)) fun ⟨a10, d11⟩ ⟨h11, l11, u11⟩ => Ok.s ⟨h11, ⟨by dsimp only; omega, by dsimp only; omega, fun e => ?_, fun _ => ⟨l11, u11⟩, fun _ e => absurd g' e⟩, rfl, rfl, rfl⟩
    dsimp only at e; omega
  · exact Ok.s ⟨h3, ⟨by dsimp only; omega, by dsimp only; omega, fun e => absurd e g, fun e => absurd e g', fun _ _ => rfl⟩, rfl, rfl, rfl⟩
theorem runV_pair (hb : BookOK b) (hQ : StepQ Q M c b) (h : PageInv Q M b p) (now : Int) : ∃ q, runV c b p now = (q, 0) ∧ PageInv Q M b q ∧ waitB q now = false ∧ Kept p q := by
  have h1 := runV_inv (now := now) hb hQ h
  have h2 := runV_kept (now := now) hb hQ h
  rcases hr : runV c b p now with ⟨q, e⟩
  rw [hr] at h1 h2
  obtain ⟨a1, a2, a3⟩ := h1
  dsimp only at a1 a2 a3 h2
  subst a2
  exact ⟨q, rfl, a1, a3, h2⟩
theorem runV_pairL (hb : BookOK b) (hQ : StepQ Q M c b) (h : PageInv Q M b p) (hx : PgX k p) (hl : p.Last ≤ now) : ∃ q, runV c b p now = (q, 0) ∧ PageInv Q M b q ∧ waitB q now = false ∧ Kept p q ∧ PgX k q ∧ q.Last ≤ now := by
  obtain ⟨q, h1, h2, h3, h4⟩ := runV_pair hb hQ h now
  have h5 := hx.run (now := now) hb hQ h
  have h6 := runV_last (now := now) hb hQ h hl
  rw [h1] at h5 h6
  exact ⟨q, h1, h2, h3, h4, h5, h6⟩
theorem answerV_pair (hb : BookOK b) (h : PageInv Q M b p) (hx : PgX k p) (hv : validV a = true) (hp : a.Page = p.ID) (ha : a.At ≤ M - 20000) (hs : a.Kind = 3 → a.Arg ≤ 5000) (hpe : a.Person < 4) (hk : 1 ≤ a.ID ∧ a.ID ≤ k) (hl : p.Last ≤ a.At) :
    ((answerV b p a).2 ≠ 0) ∨ ∃ q, answerV b p a = (q, 0) ∧ PageInv Q M b q ∧ PgX k q ∧ q.Last ≤ a.At ∧ q.ID = p.ID ∧ q.Policy = p.Policy ∧ q.Start = p.Start ∧ q.Next = p.Next := by
  by_cases hse : p.Seen.contains a.ID = true
  · exact .inr ⟨p, answerV_old (h.check hb) hv hp hse, h, hx, hl, rfl, rfl, rfl, rfl⟩
  · have hse : p.Seen.contains a.ID = false := by simpa using hse
    rw [answerV_new (h.check hb) hv hp hse]
    by_cases hr : refusedV p a = 0
    · rw [if_neg (by simp [hr])]
      exact .inr ⟨_, rfl, h.answerQ_inv hb hv ha hs hse hr, hx.answer hpe hk, answerQ_last hl, answerQ_id⟩
    · rw [if_pos hr]; exact .inl hr
structure MadeP (c : D.Config) (b : D.Book) (p : D.Page) (now : Int) : Prop where
  inv : PageInv (QP c b) 1000000 b p
  x : PgX 9 p
  last : p.Last ≤ now
  id : p.ID ≤ 3
  lo : 864000 ≤ now
  hi : now ≤ 880000
theorem page_ok {k : Int} (hL : L.length ≤ 500) (hd : DiceOK L d) (hc : CfgOK n c) (hn : n ≤ 48) (hb : BookOK b) (hk : 0 ≤ k ∧ k ≤ 6) :
    Ok (made_Dice_Page 1000 d c b k) fun r => DiceOK L r.2.2 ∧ MadeP c b r.1 r.2.1 := by
  have hpl := hb.plen
  unfold made_Dice_Page
  refine Ok.opt (one_ok hL hd (by simp) (by simp)) fun ⟨a0, d1⟩ ⟨h1, m1⟩ => ?_
  dsimp only at h1 m1 ⊢
  simp only [List.mem_cons, List.not_mem_nil, or_false] at m1
  refine Ok.opt (nx hL h1 (by omega) (by omega)) fun ⟨a2, d3⟩ ⟨h3, l3, u3⟩ => ?_
  dsimp only at h3 l3 u3 ⊢
  refine Ok.opt (nx hL h3 (by omega) (by omega)) fun ⟨a4, d5⟩ ⟨h5, l5, u5⟩ => ?_
  dsimp only at h5 l5 u5 ⊢
  rw [wrap_id (x := 1 + a2) (by omega), wrap_id (x := 864000 + a0) (by omega)]
  have hnew : newV b (1 + a2) a4 (864000 + a0) = (newP (1 + a2) a4 (864000 + a0), 0) := by
    unfold newV
    rw [if_pos ⟨inV_is.2 (by omega), inV_is.2 (by omega)⟩, if_pos (inV_is.2 (by omega))]
  refine Ok.oe (new29_is hb) ?_
  rw [hnew]
  dsimp only
  refine Ok.n (by simp) ?_
  rw [wrap_id (x := k + 1) (by omega)]
  refine Ok.opt (nx hL h5 (by omega) (by omega)) fun ⟨a8, d9⟩ ⟨h9, l9, u9⟩ => ?_
  dsimp only at h9 l9 u9 ⊢
  refine Ok.loop (fun m x => ∃ (now i : Int) (d : D.Dice) (p : D.Page), x = ((now, i, ()), d, c, b, page0, p, ()) ∧ DiceOK L d ∧ PageInv (QP c b) 1000000 b p ∧ PgX 9 p ∧ p.Last ≤ now ∧ p.ID ≤ 3 ∧ 864000 ≤ now ∧ now + 2000 * i ≤ 880000 ∧ 0 ≤ i ∧ m = i.toNat) (m := a8.toNat) (by omega)
    ⟨864000 + a0, a8, d9, _, rfl, h9, new_inv (by omega) hb (by omega) (by omega) (by omega), .new, Int.le_refl _, by show 1 + a2 ≤ 3; omega, by omega, by omega, l9, rfl⟩ ?_
  rintro m x ⟨now, i, d, p, rfl, i1, i2, i3, i4, i5, i6, i7, i8, rfl⟩ K hK
  dsimp only
  refine Ok.ite (fun hi => ?_) (fun hi => Ok.s ⟨i1, i2, i3, i4, i5, i6, by dsimp only; omega⟩)
  refine Ok.j (Ok.opt (one_ok hL i1 (by simp) (by simp)) fun ⟨a26, d27⟩ ⟨h27, m27⟩ => ?_)
  dsimp only at h27 m27 ⊢
  simp only [List.mem_cons, List.not_mem_nil, or_false] at m27
  obtain ⟨t, ht⟩ : ∃ t, now + a26 = t := ⟨_, rfl⟩
  rw [wrap_id (x := now + a26) (by omega), ht]
  obtain ⟨q, r1, r2, r3, r4, r5, r6⟩ := runV_pairL (now := t) hb QP.step i2 i3 (by omega)
  refine Ok.join (fun y => ∃ (d : D.Dice) (p : D.Page), y = ((t, i, ()), d, c, b, page0, p, ()) ∧ DiceOK L d ∧ PageInv (QP c b) 1000000 b p ∧ PgX 9 p ∧ p.Last ≤ t ∧ p.ID ≤ 3) (fun y hy => ?_) (fun J hJ => ?_)
  · obtain ⟨d, p, rfl, j1, j2, j3, j4, j5⟩ := hy
    dsimp only
    refine Ok.opt (nx hL j1 (by omega) (by omega)) fun ⟨a35, d36⟩ ⟨h36, l36, u36⟩ => ?_
    dsimp only at h36 l36 u36 ⊢
    rw [wrap_id (x := 1 + a35) (by omega)]
    refine Ok.opt (answer_ok hL h36) fun ⟨a, d38⟩ ⟨h38, ha, e1, e2, e3⟩ => ?_
    dsimp only at h38 ha e1 e2 e3 ⊢
    have hv : validV a = true := ha.valid (by omega) (by have := j2.id; omega) (by omega)
    refine Ok.oe (answer29_is hb (j2.plen hb)) ?_
    have fin : ∀ (d : D.Dice) (p : D.Page), DiceOK L d → PageInv (QP c b) 1000000 b p → PgX 9 p → p.Last ≤ t → p.ID ≤ 3 → Ok (K ((t, IntKind.wrap .i64 (i - 1), ()), d, c, b, page0, p, ())) fun r => DiceOK L r.2.2 ∧ MadeP c b r.1 r.2.1 := fun d p f1 f2 f3 f4 f5 => by
      rw [wrap_id (by omega)]
      exact hK (i - 1).toNat _ (by omega) ⟨t, i - 1, d, p, rfl, f1, f2, f3, f4, f5, by omega, by omega, by omega, rfl⟩
    rcases answerV_pair (a := a) hb j2 j3 hv e2 (by omega) (fun e => (ha.arg3 e).2) ha.pers.2 (by omega) (by omega) with hne | ⟨q', e, g1, g2, g3, g4, _⟩
    · rcases hav : answerV b p a with ⟨q', er⟩
      rw [hav] at hne
      exact Ok.n hne (fin _ _ h38 j2 j3 j4 j5)
    · rw [e]
      dsimp only
      refine Ok.p rfl (Ok.opt (nx hL h38 (by omega) (by omega)) fun ⟨a41, d42⟩ ⟨h42, _⟩ => ?_)
      exact Ok.ite (fun _ => fin _ _ h42 g1 g2 (by omega) (by omega)) (fun _ => fin _ _ h42 j2 j3 j4 j5)
  · refine Ok.oe (run29_is hc hn hb (i2.plen hb)) ?_
    rw [r1]
    dsimp only
    refine Ok.p rfl (Ok.opt (nx hL h27 (by omega) (by omega)) fun ⟨a46, d47⟩ ⟨h47, _⟩ => ?_)
    exact Ok.ite (fun _ => hJ _ ⟨_, _, rfl, h47, r2, r5, r6, by rw [r4.id]; exact i5⟩) (fun _ => hJ _ ⟨_, _, rfl, h47, i2, i3, by omega, i5⟩)
end
end Go.Proofs.YtfhcigjkfelnfaaGreat
/-
  The laws EscalateEnds and EscalateSplits, of what is reckoned of their code.
-/
set_option maxRecDepth 100000
set_option linter.unusedVariables false
set_option linter.unusedSimpArgs false
namespace Go.Proofs.YtfhcigjkfelnfaaGreat
open Go AM
attribute [local irreducible] dueV stepV runV checkV answerV
theorem sane29 : law29_sane 1000 = some true := by kernel_rfl
end Go.Proofs.YtfhcigjkfelnfaaGreat
/-
  What functions do, reckoned from their code, and their contracts. Printed by wip/gen/brun.py.
-/
set_option maxRecDepth 100000
set_option linter.unusedVariables false
namespace Go.Proofs.YtfhcigjkfelnfaaGreat
open Go AM
noncomputable section
def law29_EscalateAnswers (fu : Nat) (p0 : List Int) (p1 : Int) : Option (Bool) :=
 (optc (made_Light fu p0) fun a0 =>
 (cnd (!a0)
 (optc (law29_sane fu) fun a1 =>
 (some a1))
 (optc (made_Roll fu p0) fun a2 =>
 (optc (made_Dice_Crew fu a2) fun (a3, a4) =>
 (optc (made_Dice_Book fu a4) fun (a5, a6) =>
 (optc (made_Dice_Page fu a6 a3 a5 6) fun (a7, (a8, a9)) =>
 (optc (escalate_Run fu a3 a5 a7 a8) fun (a10, a11) =>
 (cnd (decide (a11 ≠ 0))
 (some false)
 (optc (made_Dice_Answer fu a9 50 (D.Page.ID a10) a8) fun (a12, a13) =>
 (optc (escalate_Answer fu a3 a5 a10 a12) fun (a14, a15) =>
 (cnd (decide (a15 ≠ 0))
 (cnd (decide (a15 = 9))
 (optc (law29_sane fu) fun a16 =>
 (cnd a16
 (some true)
 (some false)))
 (cnd (decide (a15 = 5))
 (optc (law29_sane fu) fun a17 =>
 (cnd a17
 (some true)
 (some false)))
 (some false)))
 (optc (escalate_Answer fu a3 a5 a14 a12) fun (a18, a19) =>
 (optc (escalate_Run fu a3 a5 a14 (IntKind.wrap .i64 (a8 + (IntKind.wrap .i64 p1)))) fun (a20, a21) =>
 (join (Y := (Unit × (D.Page × (D.Answer × (D.Page × (D.Page × Unit)))))) (fun (_, (a22, (a23, (a24, (a25, _))))) =>
 (join (Y := (Unit × (D.Page × (D.Answer × (D.Page × Unit))))) (fun (_, (a26, (a27, (a28, _)))) =>
 (join (Y := (Unit × (D.Page × (D.Answer × (D.Page × Unit))))) (fun (_, (a29, (a30, (a31, _)))) =>
 (cnd (decide ((D.Answer.Kind a30) = 4))
 (optc (law29_sane fu) fun a32 =>
 (cnd a32
 (some true)
 (some false)))
 (cnd (decide ((((List.length (D.Page.Starts a31)) : Nat) : Int) = (((List.length (D.Page.Starts a29)) : Nat) : Int)))
 (optc (law29_sane fu) fun a33 =>
 (cnd a33
 (some true)
 (some false)))
 (some false)))) fun J34 =>
 (cnd (decide ((D.Answer.Kind a27) = 4))
 (optc (escalate_Called fu a28) fun a35 =>
 (optc (r25_Same fu a35 ((D.Answer.Arg a27) :: [])) fun a36 =>
 (cnd a36
 (cnd (decide ((((List.length (D.Page.Starts a28)) : Nat) : Int) ≠ (IntKind.wrap .i64 ((((List.length (D.Page.Starts a26)) : Nat) : Int) + 1))))
 (some false)
 (J34 ((), (a26, (a27, (a28, ()))))))
 (some false))))
 (J34 ((), (a26, (a27, (a28, ())))))))) fun J37 =>
 (cnd (decide ((D.Answer.Kind a23) = 1))
 (cnd (decide ((D.Page.State a24) ≠ 1))
 (some false)
 (optc (r29_Same fu a25 a24) fun a38 =>
 (cnd a38
 (cnd (decide ((D.Answer.Kind a23) = 5))
 (cnd (decide ((D.Page.State a24) ≠ 4))
 (some false)
 (optc (r29_Same fu a25 a24) fun a39 =>
 (cnd a39
 (J37 ((), (a22, (a23, (a24, ())))))
 (some false))))
 (J37 ((), (a22, (a23, (a24, ()))))))
 (some false))))
 (cnd (decide ((D.Answer.Kind a23) = 5))
 (cnd (decide ((D.Page.State a24) ≠ 4))
 (some false)
 (optc (r29_Same fu a25 a24) fun a40 =>
 (cnd a40
 (J37 ((), (a22, (a23, (a24, ())))))
 (some false))))
 (J37 ((), (a22, (a23, (a24, ()))))))))) fun J41 =>
 (cnd (decide (a19 ≠ 0))
 (some false)
 (cnd (decide (a21 ≠ 0))
 (some false)
 (optc (r29_Same fu a14 a18) fun a42 =>
 (cnd a42
 (optc (r25_Has fu (D.Page.Seen a14) 50) fun a43 =>
 (cnd a43
 (J41 ((), (a10, (a12, (a14, (a20, ()))))))
 (some false)))
 (some false)))))))))))))))))))
def made_Dice_Some (fu : Nat) (p0 : D.Dice) : Option (List Int × D.Dice) :=
 (optc (made_Dice_Next fu p0 5) fun (a0, a1) =>
 (iterF (X := ((Int × Unit) × (D.Dice × (List Int × Unit)))) (fun L2 ((a3, _), (a4, (a5, _))) =>
 (cnd (decide (0 < a3))
 (optc (made_Dice_Next fu a4 9) fun (a6, a7) =>
 (lec ((List.length a5) + (List.length ((IntKind.wrap .i64 (a6 - 2)) :: []))) 34359738368 (L2 (((IntKind.wrap .i64 (a3 - 1)), ()), (a7, ((a5 ++ ((IntKind.wrap .i64 (a6 - 2)) :: [])), ()))))))
 (some (a5, a4)))) fu ((a0, ()), (a1, ([], ())))))
def made_Dice_Some_g (fu : Nat) : Sig := mkSig [.one (.ref 1)] [(1, .boxst .Dice)] [.one (.lst .int)] [(1, .boxst .Dice)] [] (List Int × D.Dice) (fun q => ((q.1, ()), (q.2, ()))) (fun x y => made_Dice_Some fu y.1)
theorem made_Dice_Some_ok (fu : Nat) : FnOK Tryz.prog 101 (made_Dice_Some_g fu) :=
 FnOK.intro (ty := ty) (E := envL [(32, 0, made_Dice_Next_g fu)]) (fu := fu) (an := .two .go (.two .go (.two (.two .go (.one (.loop [(0, .one (.ref 1)), (3, .one (.own 1016)), (4, nI)] [(1, .boxst .Dice), (1016, .arr .int)] .go))) .go))) (fun a b => (a.1, b.1)) (fun _ _ => rfl) (envL_ok ⟨made_Dice_Next_ok fu, trivial⟩) Tryz.func101 rfl rfl (fun x y => by kernel_rfl)
def made_Dice_OddPage (fu : Nat) (p0 : D.Dice) (p1 : D.Page) : Option (D.Page × D.Dice) :=
 (optc (r29_Copy fu p1) fun a0 =>
 (join (Y := (Unit × (D.Page × ((Int × (Int × (Int × (Int × (Int × (Int × (Int × (Int × (Int × (Int × (Int × (List Int × Unit)))))))))))) × (D.Dice × (List D.Start × (List Int × Unit))))))) (fun (_, (a1, ((a2, (a3, (a4, (a5, (a6, (a7, (a8, (a9, (a10, (a11, (a12, (a13, _)))))))))))), (a14, (a15, (a16, _)))))) =>
 (some ((D.Page.mk a2 a3 a4 a5 a6 a7 a8 a9 a10 a11 a12 a15 a13 a16), a14))) fun J17 =>
 (optc (made_Dice_Next fu p0 14) fun (a18, a19) =>
 (cnd (decide (a18 = 0))
 (optc (made_Dice_One fu a19 (0 :: (999999 :: (1000000 :: [])))) fun (a20, a21) =>
 (J17 ((), ((D.Page.mk 0 0 0 0 0 0 0 0 0 0 0 [] [] []), ((a20, ((D.Page.Policy a0), ((D.Page.Start a0), ((D.Page.Next a0), ((D.Page.Due a0), ((D.Page.State a0), ((D.Page.By a0), ((D.Page.Until a0), ((D.Page.Last a0), ((D.Page.Snoozes a0), ((D.Page.Hands a0), ((D.Page.Declined a0), ())))))))))))), (a21, ((D.Page.Starts a0), ((D.Page.Seen a0), ()))))))))
 (cnd (decide (a18 = 1))
 (optc (made_Dice_One fu a19 ((-1) :: (5 :: []))) fun (a22, a23) =>
 (J17 ((), ((D.Page.mk 0 0 0 0 0 0 0 0 0 0 0 [] [] []), (((D.Page.ID a0), (a22, ((D.Page.Start a0), ((D.Page.Next a0), ((D.Page.Due a0), ((D.Page.State a0), ((D.Page.By a0), ((D.Page.Until a0), ((D.Page.Last a0), ((D.Page.Snoozes a0), ((D.Page.Hands a0), ((D.Page.Declined a0), ())))))))))))), (a23, ((D.Page.Starts a0), ((D.Page.Seen a0), ()))))))))
 (cnd (decide (a18 = 2))
 (optc (made_Dice_One fu a19 ((-1) :: (0 :: (1 :: (99 :: []))))) fun (a24, a25) =>
 (J17 ((), ((D.Page.mk 0 0 0 0 0 0 0 0 0 0 0 [] [] []), (((D.Page.ID a0), ((D.Page.Policy a0), ((D.Page.Start a0), (a24, ((D.Page.Due a0), ((D.Page.State a0), ((D.Page.By a0), ((D.Page.Until a0), ((D.Page.Last a0), ((D.Page.Snoozes a0), ((D.Page.Hands a0), ((D.Page.Declined a0), ())))))))))))), (a25, ((D.Page.Starts a0), ((D.Page.Seen a0), ()))))))))
 (cnd (decide (a18 = 3))
 (optc (made_Dice_One fu a19 ((-1) :: (0 :: (864000 :: (34359738368 :: []))))) fun (a26, a27) =>
 (J17 ((), ((D.Page.mk 0 0 0 0 0 0 0 0 0 0 0 [] [] []), (((D.Page.ID a0), ((D.Page.Policy a0), ((D.Page.Start a0), ((D.Page.Next a0), (a26, ((D.Page.State a0), ((D.Page.By a0), ((D.Page.Until a0), ((D.Page.Last a0), ((D.Page.Snoozes a0), ((D.Page.Hands a0), ((D.Page.Declined a0), ())))))))))))), (a27, ((D.Page.Starts a0), ((D.Page.Seen a0), ()))))))))
 (cnd (decide (a18 = 4))
 (optc (made_Dice_Next fu a19 7) fun (a28, a29) =>
 (J17 ((), ((D.Page.mk 0 0 0 0 0 0 0 0 0 0 0 [] [] []), (((D.Page.ID a0), ((D.Page.Policy a0), ((D.Page.Start a0), ((D.Page.Next a0), ((D.Page.Due a0), ((IntKind.wrap .i64 (a28 - 1)), ((D.Page.By a0), ((D.Page.Until a0), ((D.Page.Last a0), ((D.Page.Snoozes a0), ((D.Page.Hands a0), ((D.Page.Declined a0), ())))))))))))), (a29, ((D.Page.Starts a0), ((D.Page.Seen a0), ()))))))))
 (cnd (decide (a18 = 5))
 (optc (made_Dice_One fu a19 ((-2) :: (32 :: []))) fun (a30, a31) =>
 (J17 ((), ((D.Page.mk 0 0 0 0 0 0 0 0 0 0 0 [] [] []), (((D.Page.ID a0), ((D.Page.Policy a0), ((D.Page.Start a0), ((D.Page.Next a0), ((D.Page.Due a0), ((D.Page.State a0), (a30, ((D.Page.Until a0), ((D.Page.Last a0), ((D.Page.Snoozes a0), ((D.Page.Hands a0), ((D.Page.Declined a0), ())))))))))))), (a31, ((D.Page.Starts a0), ((D.Page.Seen a0), ()))))))))
 (cnd (decide (a18 = 6))
 (optc (made_Dice_One fu a19 (0 :: (864000 :: (34359738368 :: [])))) fun (a32, a33) =>
 (J17 ((), ((D.Page.mk 0 0 0 0 0 0 0 0 0 0 0 [] [] []), (((D.Page.ID a0), ((D.Page.Policy a0), ((D.Page.Start a0), ((D.Page.Next a0), ((D.Page.Due a0), ((D.Page.State a0), ((D.Page.By a0), ((D.Page.Until a0), (a32, ((D.Page.Snoozes a0), ((D.Page.Hands a0), ((D.Page.Declined a0), ())))))))))))), (a33, ((D.Page.Starts a0), ((D.Page.Seen a0), ()))))))))
 (cnd (decide (a18 = 7))
 (optc (made_Dice_One fu a19 ((-1) :: (4 :: (5 :: [])))) fun (a34, a35) =>
 (J17 ((), ((D.Page.mk 0 0 0 0 0 0 0 0 0 0 0 [] [] []), (((D.Page.ID a0), ((D.Page.Policy a0), ((D.Page.Start a0), ((D.Page.Next a0), ((D.Page.Due a0), ((D.Page.State a0), ((D.Page.By a0), ((D.Page.Until a0), ((D.Page.Last a0), (a34, ((D.Page.Hands a0), ((D.Page.Declined a0), ())))))))))))), (a35, ((D.Page.Starts a0), ((D.Page.Seen a0), ()))))))))
 (cnd (decide (a18 = 8))
 (optc (made_Dice_One fu a19 ((-1) :: (4 :: (5 :: [])))) fun (a36, a37) =>
 (J17 ((), ((D.Page.mk 0 0 0 0 0 0 0 0 0 0 0 [] [] []), (((D.Page.ID a0), ((D.Page.Policy a0), ((D.Page.Start a0), ((D.Page.Next a0), ((D.Page.Due a0), ((D.Page.State a0), ((D.Page.By a0), ((D.Page.Until a0), ((D.Page.Last a0), ((D.Page.Snoozes a0), (a36, ((D.Page.Declined a0), ())))))))))))), (a37, ((D.Page.Starts a0), ((D.Page.Seen a0), ()))))))))
 (cnd (decide (a18 = 9))
 (optc (made_Dice_Next fu a19 3) fun (a38, a39) =>
 (lec ((List.length (D.Page.Seen a0)) + (List.length (1 :: (a38 :: [])))) 34359738368 (J17 ((), ((D.Page.mk 0 0 0 0 0 0 0 0 0 0 0 [] [] []), (((D.Page.ID a0), ((D.Page.Policy a0), ((D.Page.Start a0), ((D.Page.Next a0), ((D.Page.Due a0), ((D.Page.State a0), ((D.Page.By a0), ((D.Page.Until a0), ((D.Page.Last a0), ((D.Page.Snoozes a0), ((D.Page.Hands a0), ((D.Page.Declined a0), ())))))))))))), (a39, ((D.Page.Starts a0), (((D.Page.Seen a0) ++ (1 :: (a38 :: []))), ())))))))))
 (cnd (decide (a18 = 10))
 (optc (made_Dice_Next fu a19 4) fun (a40, a41) =>
 (optc (made_Dice_Next fu a41 3) fun (a42, a43) =>
 (J17 ((), ((D.Page.mk 0 0 0 0 0 0 0 0 0 0 0 [] [] []), (((D.Page.ID a0), ((D.Page.Policy a0), ((D.Page.Start a0), ((D.Page.Next a0), ((D.Page.Due a0), ((D.Page.State a0), ((D.Page.By a0), ((D.Page.Until a0), ((D.Page.Last a0), ((D.Page.Snoozes a0), ((D.Page.Hands a0), (((IntKind.wrap .i64 (a40 - 1)) :: (a42 :: [])), ())))))))))))), (a43, ((D.Page.Starts a0), ((D.Page.Seen a0), ())))))))))
 (cnd (decide (a18 = 11))
 (optc (made_Dice_Next fu a19 5) fun (a44, a45) =>
 (optc (made_Dice_One fu a45 (0 :: (864000 :: (873999 :: [])))) fun (a46, a47) =>
 (optc (made_Dice_Some fu a47) fun (a48, a49) =>
 (lec ((List.length (D.Page.Starts a0)) + (List.length ((D.Start.mk (IntKind.wrap .i64 (a44 - 2)) a46 a48) :: []))) 34359738368 (J17 ((), ((D.Page.mk 0 0 0 0 0 0 0 0 0 0 0 [] [] []), (((D.Page.ID a0), ((D.Page.Policy a0), ((D.Page.Start a0), ((D.Page.Next a0), ((D.Page.Due a0), ((D.Page.State a0), ((D.Page.By a0), ((D.Page.Until a0), ((D.Page.Last a0), ((D.Page.Snoozes a0), ((D.Page.Hands a0), ((D.Page.Declined a0), ())))))))))))), (a49, (((D.Page.Starts a0) ++ ((D.Start.mk (IntKind.wrap .i64 (a44 - 2)) a46 a48) :: [])), ((D.Page.Seen a0), ())))))))))))
 (cnd (decide (a18 = 12))
 (optc (made_Dice_One fu a19 ((-1) :: (34359738368 :: []))) fun (a50, a51) =>
 (J17 ((), ((D.Page.mk 0 0 0 0 0 0 0 0 0 0 0 [] [] []), (((D.Page.ID a0), ((D.Page.Policy a0), ((D.Page.Start a0), ((D.Page.Next a0), ((D.Page.Due a0), ((D.Page.State a0), ((D.Page.By a0), (a50, ((D.Page.Last a0), ((D.Page.Snoozes a0), ((D.Page.Hands a0), ((D.Page.Declined a0), ())))))))))))), (a51, ((D.Page.Starts a0), ((D.Page.Seen a0), ()))))))))
 (J17 ((), ((D.Page.mk 0 0 0 0 0 0 0 0 0 0 0 [] [] []), (((D.Page.ID a0), ((D.Page.Policy a0), ((D.Page.Start a0), ((D.Page.Next a0), ((D.Page.Due a0), ((D.Page.State a0), ((D.Page.By a0), ((D.Page.Until a0), ((D.Page.Last a0), ((D.Page.Snoozes a0), ((D.Page.Hands a0), ((D.Page.Declined a0), ())))))))))))), (a19, ((D.Page.Starts a0), ((D.Page.Seen a0), ())))))))))))))))))))))))
def made_Dice_OddPage_g (fu : Nat) : Sig := mkSig [.one (.ref 1), .st .Page] [(1, .boxst .Dice)] [.st .Page] [(1, .boxst .Dice)] [] (D.Page × D.Dice) (fun q => ((q.1, ()), (q.2, ()))) (fun x y => made_Dice_OddPage fu y.1 x.1)
theorem made_Dice_OddPage_ok (fu : Nat) : FnOK Tryz.prog 55 (made_Dice_OddPage_g fu) :=
 FnOK.intro (ty := ty) (E := envL [(32, 0, made_Dice_Next_g fu), (48, 0, made_Dice_One_g fu), (66, 0, r29_Copy_g fu), (101, 0, made_Dice_Some_g fu)]) (fu := fu) (an := .two .go (.two .go (.two (.join [(4, .one (.ref 1004)), (5, .one (.ref 1005))] [(1004, .boxst .Page), (1005, .box [.num .i64, .num .i64, .num .i64, .num .i64, .num .i64, .num .i64, .num .i64, .num .i64, .num .i64, .num .i64, .num .i64, .own 1008025, .lst .int, .own 1008033]), (1, .boxst .Dice), (1008025, .arr .Start), (1008033, .arr .int)] .go) .go))) (fun a b => (a.1, b.1)) (fun _ _ => rfl) (envL_ok ⟨made_Dice_Next_ok fu, made_Dice_One_ok fu, r29_Copy_ok fu, made_Dice_Some_ok fu, trivial⟩) Tryz.func55 rfl rfl (fun x y => by kernel_rfl)
def law29_EscalateSteps (fu : Nat) (p0 : List Int) (p1 : Int) : Option (Bool) :=
 (optc (made_Light fu p0) fun a0 =>
 (cnd (!a0)
 (optc (law29_sane fu) fun a1 =>
 (some a1))
 (optc (made_Roll fu p0) fun a2 =>
 (optc (made_Dice_Crew fu a2) fun (a3, a4) =>
 (optc (made_Dice_Book fu a4) fun (a5, a6) =>
 (optc (made_Dice_Page fu a6 a3 a5 6) fun (a7, (a8, a9)) =>
 (optc (made_Dice_OddPage fu a9 a7) fun (a10, a11) =>
 (optc (made_Dice_OddPage fu a11 a7) fun (a12, a13) =>
 (optc (made_Dice_OddPage fu a13 a12) fun (a14, a15) =>
 (iterF (X := ((Int × (Int × (List D.Page × (Int × (Int × Unit))))) × (D.Dice × (D.Config × (D.Book × Unit))))) (fun L16 ((a17, (a18, (a19, (a20, (a21, _))))), (a22, (a23, (a24, _)))) =>
 (cnd (decide (a21 < a20))
 (atc a19 a21 fun a25 =>
 (optc (escalate_Due fu a25) fun (a26, a27) =>
 (optc (r29_Due fu a25) fun (a28, a29) =>
 (join (Y := ((Int × (Int × (List D.Page × (Int × (Int × Unit))))) × (D.Dice × (D.Config × (D.Book × (D.Page × Unit)))))) (fun ((a30, (a31, (a32, (a33, (a34, _))))), (a35, (a36, (a37, (a38, _))))) =>
 (optc (escalate_Step fu a36 a37 a38) fun (a39, a40) =>
 (optc (r29_Step fu a36 a37 a38) fun (a41, a42) =>
 (join (Y := ((Int × (Int × (List D.Page × (Int × (Int × Unit))))) × (D.Dice × (D.Config × (D.Book × (D.Page × (D.Page × (D.Page × Unit)))))))) (fun ((a43, (a44, (a45, (a46, (a47, _))))), (a48, (a49, (a50, (a51, (a52, (a53, _))))))) =>
 (iterF (X := ((Int × (Int × (List D.Page × (Int × (Int × (List Int × (Int × (Int × Unit)))))))) × (D.Dice × (D.Config × (D.Book × (D.Page × (D.Page × (D.Page × Unit)))))))) (fun L54 ((a55, (a56, (a57, (a58, (a59, (a60, (a61, (a62, _)))))))), (a63, (a64, (a65, (a66, (a67, (a68, _))))))) =>
 (cnd (decide (a62 < a61))
 (join (Y := ((Int × (Int × (List D.Page × (Int × (Int × (List Int × (Int × (Int × Unit)))))))) × (D.Dice × (D.Config × (D.Book × (D.Page × (D.Page × (D.Page × Unit)))))))) (fun ((a69, (a70, (a71, (a72, (a73, (a74, (a75, (a76, _)))))))), (a77, (a78, (a79, (a80, (a81, (a82, _))))))) =>
 (L54 ((a69, (a70, (a71, (a72, (a73, (a74, (a75, ((IntKind.wrap .i64 (a76 + 1)), ())))))))), (a77, (a78, (a79, (a80, (a81, (a82, ()))))))))) fun J83 =>
 (atc a60 a62 fun a84 =>
 (optc (escalate_Run fu a64 a65 a66 a84) fun (a85, a86) =>
 (optc (r29_Run fu a64 a65 a66 a84) fun (a87, a88) =>
 (cnd (decide (a86 ≠ a88))
 (some false)
 (optc (r29_Same fu a85 a87) fun a89 =>
 (cnd a89
 (J83 ((a55, (a56, (a57, (a58, (a59, (a60, (a61, (a62, ())))))))), (a63, (a64, (a65, (a66, (a85, (a87, ()))))))))
 (some false))))))))
 (iterF (X := ((Int × (Int × (Int × (List D.Page × (Int × (Int × Unit)))))) × (D.Dice × (D.Config × (D.Book × (D.Page × (D.Page × (D.Page × Unit)))))))) (fun L90 ((a91, (a92, (a93, (a94, (a95, (a96, _)))))), (a97, (a98, (a99, (a100, (a101, (a102, _))))))) =>
 (cnd (decide (a93 < 3))
 (join (Y := ((Int × (Int × (Int × (List D.Page × (Int × (Int × Unit)))))) × (D.Dice × (D.Config × (D.Book × (D.Page × (D.Page × (D.Page × Unit)))))))) (fun ((a103, (a104, (a105, (a106, (a107, (a108, _)))))), (a109, (a110, (a111, (a112, (a113, (a114, _))))))) =>
 (L90 ((a103, (a104, ((IntKind.wrap .i64 (a105 + 1)), (a106, (a107, (a108, ())))))), (a109, (a110, (a111, (a112, (a113, (a114, ()))))))))) fun J115 =>
 (optc (made_Dice_Next fu a97 9) fun (a116, a117) =>
 (optc (made_Dice_One fu a117 ((D.Page.ID a100) :: ((D.Page.ID a100) :: ((D.Page.ID a100) :: (2 :: []))))) fun (a118, a119) =>
 (optc (made_Dice_One fu a119 (a92 :: ((IntKind.wrap .i64 (a92 + 60)) :: ((D.Page.Last a100) :: [])))) fun (a120, a121) =>
 (optc (made_Dice_Answer fu a121 (IntKind.wrap .i64 (1 + a116)) a118 a120) fun (a122, a123) =>
 (join (Y := ((Int × (Int × (Int × (List D.Page × (Int × (Int × Unit)))))) × (D.Dice × (D.Config × (D.Book × (D.Page × (D.Page × (D.Page × (D.Answer × Unit))))))))) (fun ((a124, (a125, (a126, (a127, (a128, (a129, _)))))), (a130, (a131, (a132, (a133, (a134, (a135, (a136, _)))))))) =>
 (optc (escalate_Answer fu a131 a132 a133 a136) fun (a137, a138) =>
 (optc (r29_Answer fu a131 a132 a133 a136) fun (a139, a140) =>
 (cnd (decide (a138 ≠ a140))
 (some false)
 (optc (r29_Same fu a137 a139) fun a141 =>
 (cnd a141
 (J115 ((a124, (a125, (a126, (a127, (a128, (a129, ())))))), (a130, (a131, (a132, (a133, (a137, (a139, ()))))))))
 (some false))))))) fun J142 =>
 (optc (made_Dice_Next fu a123 9) fun (a143, a144) =>
 (cnd (decide (a143 = 0))
 (J142 ((a91, (a92, (a93, (a94, (a95, (a96, ())))))), (a144, (a98, (a99, (a100, (a101, (a102, ((D.Answer.mk (D.Answer.ID a122) (D.Answer.Page a122) (D.Answer.Person a122) 7 (D.Answer.Arg a122) (D.Answer.At a122)), ())))))))))
 (J142 ((a91, (a92, (a93, (a94, (a95, (a96, ())))))), (a144, (a98, (a99, (a100, (a101, (a102, (a122, ())))))))))))))))))
 (L16 ((a91, (a92, (a94, (a95, ((IntKind.wrap .i64 (a96 + 1)), ()))))), (a97, (a98, (a99, ()))))))) fu ((a55, (a56, (0, (a57, (a58, (a59, ())))))), (a63, (a64, (a65, (a66, (a67, (a68, ())))))))))) fu ((a43, (a44, (a45, (a46, (a47, ((a44 :: ((IntKind.wrap .i64 (a44 + 700)) :: (a43 :: []))), ((((List.length (a44 :: ((IntKind.wrap .i64 (a44 + 700)) :: (a43 :: [])))) : Nat) : Int), (0, ())))))))), (a48, (a49, (a50, (a51, (a52, (a53, ()))))))))) fun J145 =>
 (cnd (decide (a40 ≠ a42))
 (some false)
 (optc (r29_Same fu a39 a41) fun a146 =>
 (cnd a146
 (J145 ((a30, (a31, (a32, (a33, (a34, ()))))), (a35, (a36, (a37, (a38, (a39, (a41, ()))))))))
 (some false)))))))) fun J147 =>
 (cnd (decide (a26 ≠ a28))
 (some false)
 (cnd a27
 (cnd a29
 (optc (escalate_Check fu a24 a25) fun a148 =>
 (cnd a148
 (optc (r29_Check fu a24 a25) fun a149 =>
 (cnd a149
 (optc (escalate_Closed fu a25) fun a150 =>
 (cnd a150
 (optc (r29_Closed fu a25) fun a151 =>
 (cnd a151
 (optc (escalate_Called fu a25) fun a152 =>
 (optc (r29_Called fu a25) fun a153 =>
 (optc (r25_Same fu a152 a153) fun a154 =>
 (cnd a154
 (J147 ((a17, (a18, (a19, (a20, (a21, ()))))), (a22, (a23, (a24, (a25, ()))))))
 (some false)))))
 (some false)))
 (optc (r29_Closed fu a25) fun a155 =>
 (cnd a155
 (some false)
 (optc (escalate_Called fu a25) fun a156 =>
 (optc (r29_Called fu a25) fun a157 =>
 (optc (r25_Same fu a156 a157) fun a158 =>
 (cnd a158
 (J147 ((a17, (a18, (a19, (a20, (a21, ()))))), (a22, (a23, (a24, (a25, ()))))))
 (some false)))))))))
 (some false)))
 (optc (r29_Check fu a24 a25) fun a159 =>
 (cnd a159
 (some false)
 (optc (escalate_Closed fu a25) fun a160 =>
 (cnd a160
 (optc (r29_Closed fu a25) fun a161 =>
 (cnd a161
 (optc (escalate_Called fu a25) fun a162 =>
 (optc (r29_Called fu a25) fun a163 =>
 (optc (r25_Same fu a162 a163) fun a164 =>
 (cnd a164
 (J147 ((a17, (a18, (a19, (a20, (a21, ()))))), (a22, (a23, (a24, (a25, ()))))))
 (some false)))))
 (some false)))
 (optc (r29_Closed fu a25) fun a165 =>
 (cnd a165
 (some false)
 (optc (escalate_Called fu a25) fun a166 =>
 (optc (r29_Called fu a25) fun a167 =>
 (optc (r25_Same fu a166 a167) fun a168 =>
 (cnd a168
 (J147 ((a17, (a18, (a19, (a20, (a21, ()))))), (a22, (a23, (a24, (a25, ()))))))
 (some false)))))))))))))
 (some false))
 (cnd a29
 (some false)
 (optc (escalate_Check fu a24 a25) fun a169 =>
 (cnd a169
 (optc (r29_Check fu a24 a25) fun a170 =>
 (cnd a170
 (optc (escalate_Closed fu a25) fun a171 =>
 (cnd a171
 (optc (r29_Closed fu a25) fun a172 =>
 (cnd a172
 (optc (escalate_Called fu a25) fun a173 =>
 (optc (r29_Called fu a25) fun a174 =>
 (optc (r25_Same fu a173 a174) fun a175 =>
 (cnd a175
 (J147 ((a17, (a18, (a19, (a20, (a21, ()))))), (a22, (a23, (a24, (a25, ()))))))
 (some false)))))
 (some false)))
 (optc (r29_Closed fu a25) fun a176 =>
 (cnd a176
 (some false)
 (optc (escalate_Called fu a25) fun a177 =>
 (optc (r29_Called fu a25) fun a178 =>
 (optc (r25_Same fu a177 a178) fun a179 =>
 (cnd a179
 (J147 ((a17, (a18, (a19, (a20, (a21, ()))))), (a22, (a23, (a24, (a25, ()))))))
 (some false)))))))))
 (some false)))
 (optc (r29_Check fu a24 a25) fun a180 =>
 (cnd a180
 (some false)
 (optc (escalate_Closed fu a25) fun a181 =>
 (cnd a181
 (optc (r29_Closed fu a25) fun a182 =>
 (cnd a182
 (optc (escalate_Called fu a25) fun a183 =>
 (optc (r29_Called fu a25) fun a184 =>
 (optc (r25_Same fu a183 a184) fun a185 =>
 (cnd a185
 (J147 ((a17, (a18, (a19, (a20, (a21, ()))))), (a22, (a23, (a24, (a25, ()))))))
 (some false)))))
 (some false)))
 (optc (r29_Closed fu a25) fun a186 =>
 (cnd a186
 (some false)
 (optc (escalate_Called fu a25) fun a187 =>
 (optc (r29_Called fu a25) fun a188 =>
 (optc (r25_Same fu a187 a188) fun a189 =>
 (cnd a189
 (J147 ((a17, (a18, (a19, (a20, (a21, ()))))), (a22, (a23, (a24, (a25, ()))))))
 (some false))))))))))))))))))))
 (optc (law29_sane fu) fun a190 =>
 (some a190)))) fu ((p1, (a8, ((a7 :: (a10 :: (a14 :: []))), ((((List.length (a7 :: (a10 :: (a14 :: [])))) : Nat) : Int), (0, ()))))), (a15, (a3, (a5, ()))))))))))))))
def law29_EscalateSteps_g (fu : Nat) : Sig := mkSig [.one (.lst .int), nI] [] [.one (.boo)] [] [] (Bool) (fun q => ((q, ()), ())) (fun x y => law29_EscalateSteps fu x.1 x.2.1)
theorem law29_EscalateSteps_ok (fu : Nat) : FnOK Tryz.prog 13 (law29_EscalateSteps_g fu) :=
 FnOK.intro (ty := ty) (E := envL [(15, 0, made_Light_g fu), (17, 0, made_Roll_g fu), (22, 0, r25_Same_g fu), (23, 0, r29_Due_g fu), (27, 0, r29_Run_g fu), (28, 0, r29_Closed_g fu), (30, 0, made_Dice_Crew_g fu), (31, 0, made_Dice_Book_g fu), (32, 0, made_Dice_Next_g fu), (37, 0, made_Dice_Page_g fu), (40, 0, law29_sane_g fu), (41, 0, escalate_Run_g fu), (42, 0, escalate_Called_g fu), (43, 0, escalate_Due_g fu), (44, 0, escalate_Answer_g fu), (45, 0, r29_Check_g fu), (46, 0, escalate_Step_g fu), (47, 0, r29_Same_g fu), (48, 0, made_Dice_One_g fu), (51, 0, made_Dice_Answer_g fu), (55, 0, made_Dice_OddPage_g fu), (56, 0, escalate_Check_g fu), (57, 0, escalate_Closed_g fu), (58, 0, r29_Called_g fu), (59, 0, r29_Step_g fu), (60, 0, r29_Answer_g fu)]) (fu := fu) (an := .two .go (.two .go (.two .go (.two .go (.two .go (.two (.two .go (.one (.loop [(1, nI), (5, .one (.ref 1030005)), (6, .one (.ref 1006)), (7, .one (.ref 1007)), (9, nI), (50, .one (.lst .Page)), (51, nI), (52, nI)] [(1030005, .boxst .Dice), (1006, .boxst .Config), (1007, .boxst .Book)] (.two .go (.two .go (.two (.one (.two .go (.two .go (.two .go (.two (.join [(1, nI), (5, .one (.ref 1030005)), (6, .one (.ref 1006)), (7, .one (.ref 1007)), (9, nI), (11, .one (.ref 1011)), (50, .one (.lst .Page)), (51, nI), (52, nI)] [(1030005, .boxst .Dice), (1006, .boxst .Config), (1007, .boxst .Book), (1011, .boxst .Page)] .go) (.two .go (.two .go (.two (.join [(1, nI), (5, .one (.ref 1030005)), (6, .one (.ref 1006)), (7, .one (.ref 1007)), (9, nI), (11, .one (.ref 1011)), (16, .one (.ref 1016)), (18, .one (.ref 1018)), (50, .one (.lst .Page)), (51, nI), (52, nI)] [(1030005, .boxst .Dice), (1006, .boxst .Config), (1007, .boxst .Book), (1011, .boxst .Page), (1016, .boxst .Page), (1018, .boxst .Page)] .go) (.two (.two .go (.one (.loop [(1, nI), (5, .one (.ref 1030005)), (6, .one (.ref 1006)), (7, .one (.ref 1007)), (9, nI), (11, .one (.ref 1011)), (16, .one (.ref 1016)), (18, .one (.ref 1018)), (50, .one (.lst .Page)), (51, nI), (52, nI), (125, .one (.lst .int)), (126, nI), (127, nI)] [(1030005, .boxst .Dice), (1006, .boxst .Config), (1007, .boxst .Book), (1011, .boxst .Page), (1016, .boxst .Page), (1018, .boxst .Page)] (.two .go (.two .go (.two (.join [(1, nI), (5, .one (.ref 1030005)), (6, .one (.ref 1006)), (7, .one (.ref 1007)), (9, nI), (11, .one (.ref 1011)), (16, .one (.ref 1016)), (18, .one (.ref 1018)), (50, .one (.lst .Page)), (51, nI), (52, nI), (125, .one (.lst .int)), (126, nI), (127, nI)] [(1030005, .boxst .Dice), (1006, .boxst .Config), (1007, .boxst .Book), (1011, .boxst .Page), (1016, .boxst .Page), (1018, .boxst .Page)] .go) .go)))))) (.two .go (.one (.loop [(1, nI), (5, .one (.ref 1030005)), (6, .one (.ref 1006)), (7, .one (.ref 1007)), (9, nI), (11, .one (.ref 1011)), (16, .one (.ref 1016)), (18, .one (.ref 1018)), (22, nI), (50, .one (.lst .Page)), (51, nI), (52, nI)] [(1030005, .boxst .Dice), (1006, .boxst .Config), (1007, .boxst .Book), (1011, .boxst .Page), (1016, .boxst .Page), (1018, .boxst .Page)] (.two .go (.two (.join [(1, nI), (5, .one (.ref 1030005)), (6, .one (.ref 1006)), (7, .one (.ref 1007)), (9, nI), (11, .one (.ref 1011)), (16, .one (.ref 1016)), (18, .one (.ref 1018)), (22, nI), (50, .one (.lst .Page)), (51, nI), (52, nI)] [(1030005, .boxst .Dice), (1006, .boxst .Config), (1007, .boxst .Book), (1011, .boxst .Page), (1016, .boxst .Page), (1018, .boxst .Page)] (.one (.two .go (.two (.join [(1, nI), (5, .one (.ref 1030005)), (6, .one (.ref 1006)), (7, .one (.ref 1007)), (9, nI), (11, .one (.ref 1011)), (16, .one (.ref 1016)), (18, .one (.ref 1018)), (22, nI), (23, .one (.ref 1023)), (50, .one (.lst .Page)), (51, nI), (52, nI)] [(1030005, .boxst .Dice), (1006, .boxst .Config), (1007, .boxst .Book), (1011, .boxst .Page), (1016, .boxst .Page), (1018, .boxst .Page), (1023, .boxst .Answer)] .go) .go)))) .go)))))))))))))) .go)))))) .go)))))) (fun a b => a.1) (fun _ _ => rfl) (envL_ok ⟨made_Light_ok fu, made_Roll_ok fu, r25_Same_ok fu, r29_Due_ok fu, r29_Run_ok fu, r29_Closed_ok fu, made_Dice_Crew_ok fu, made_Dice_Book_ok fu, made_Dice_Next_ok fu, made_Dice_Page_ok fu, law29_sane_ok fu, escalate_Run_ok fu, escalate_Called_ok fu, escalate_Due_ok fu, escalate_Answer_ok fu, r29_Check_ok fu, escalate_Step_ok fu, r29_Same_ok fu, made_Dice_One_ok fu, made_Dice_Answer_ok fu, made_Dice_OddPage_ok fu, escalate_Check_ok fu, escalate_Closed_ok fu, r29_Called_ok fu, r29_Step_ok fu, r29_Answer_ok fu, trivial⟩) Tryz.func13 rfl rfl (fun x y => by kernel_rfl)
end
end Go.Proofs.YtfhcigjkfelnfaaGreat
/-
  What functions do: all parts.
-/
/-
  The law EscalateSteps, of what is reckoned of its code.
-/
set_option maxRecDepth 100000
set_option linter.unusedVariables false
set_option linter.unusedSimpArgs false
namespace Go.Proofs.YtfhcigjkfelnfaaGreat
open Go AM
attribute [local irreducible] dueV stepV runV checkV answerV
structure OddB (m : Nat) (p : D.Page) : Prop where
  st : p.Starts.length ≤ 13 + m
  pe : ∀ s ∈ p.Starts, s.People.length ≤ 40 ∧ -1000000 ≤ s.K ∧ s.K ≤ 1000000
  de : p.Declined.length ≤ 4
  se : p.Seen.length ≤ 64 + 2 * m
  nx : -1000000 ≤ p.Next ∧ p.Next ≤ 1000000
theorem OddB.plen {m : Nat} {p : D.Page} (h : OddB m p) (hm : m ≤ 2) : PageLen p :=
  ⟨by have := h.st; omega, h.pe, by have := h.de; omega, by have := h.se; omega, h.nx⟩
theorem OddB.mono {m k : Nat} {p : D.Page} (h : OddB m p) (hm : m ≤ k) : OddB k p :=
  ⟨by have := h.st; omega, h.pe, h.de, by have := h.se; omega, h.nx⟩
theorem MadeP.odd {c : D.Config} {b : D.Book} {p : D.Page} {now : Int} (h : MadeP c b p now) (hb : BookOK b) : OddB 0 p := by
  have hl := h.inv.plen hb
  have hf := checkV_facts (h.inv.check hb)
  exact ⟨(h.inv.len hb).1, hl.pe, h.x.dlen h.inv.declined, hf.seen.2, hl.nx⟩
section
variable {L : List Int} {d : D.Dice}
theorem some_ok (hL : L.length ≤ 500) (hd : DiceOK L d) : Ok (made_Dice_Some 1000 d) fun r => DiceOK L r.2 ∧ r.1.length ≤ 4 := by
  unfold made_Dice_Some
  refine Ok.opt (nx hL hd (by omega) (by omega)) fun ⟨a0, d1⟩ ⟨h1, l1, u1⟩ => ?_
  dsimp only at h1 l1 u1 ⊢
  refine Ok.loop (fun m x => ∃ (i : Int) (d : D.Dice) (l : List Int), x = ((i, ()), d, l, ()) ∧ DiceOK L d ∧ 0 ≤ i ∧ i + (l.length : Int) ≤ 4 ∧ m = i.toNat) (m := a0.toNat) (by omega) ⟨a0, d1, [], rfl, h1, l1, by simp; omega, rfl⟩ ?_
  rintro m x ⟨i, d, l, rfl, i1, i2, i3, rfl⟩ K hK
  dsimp only
  refine Ok.ite (fun hi => ?_) (fun hi => Ok.s ⟨i1, by dsimp only; omega⟩)
  refine Ok.opt (nx hL i1 (by omega) (by omega)) fun ⟨a6, d7⟩ ⟨h7, _⟩ => Ok.lec (by simp; omega) ?_
  dsimp only at h7 ⊢
  rw [wrap_id (x := i - 1) (by omega)]
  exact hK (i - 1).toNat _ (by omega) ⟨i - 1, d7, _, rfl, h7, by omega, by simp; omega, rfl⟩
theorem oddpage_ok {p : D.Page} {m : Nat} (hL : L.length ≤ 500) (hd : DiceOK L d) (h : OddB m p) (hm : m ≤ 1) : Ok (made_Dice_OddPage 1000 d p) fun r => DiceOK L r.2 ∧ OddB (m + 1) r.1 := by
  have h' : OddB (m + 1) p := h.mono (by omega)
  have hst := h.st; have hse := h.se
  unfold made_Dice_OddPage
  refine Ok.oe (copy29_is (h.plen (by omega))) (Ok.j ?_)
  refine Ok.opt (nx hL hd (by omega) (by omega)) fun ⟨a18, d19⟩ ⟨h19, _⟩ => ?_
  dsimp only at h19 ⊢
  refine Ok.ite (fun _ => Ok.opt (one_ok hL h19 (by simp) (by simp)) fun ⟨v, e⟩ ⟨he, _⟩ => Ok.s ⟨he, ⟨h'.st, h'.pe, h'.de, h'.se, h'.nx⟩⟩) fun _ => ?_
  refine Ok.ite (fun _ => Ok.opt (one_ok hL h19 (by simp) (by simp)) fun ⟨v, e⟩ ⟨he, _⟩ => Ok.s ⟨he, ⟨h'.st, h'.pe, h'.de, h'.se, h'.nx⟩⟩) fun _ => ?_
  refine Ok.ite (fun _ => Ok.opt (one_ok hL h19 (by simp) (by simp)) fun ⟨v, e⟩ ⟨he, hv⟩ => Ok.s ⟨he, ⟨h'.st, h'.pe, h'.de, h'.se, ?_⟩⟩) fun _ => ?_
  · dsimp only at hv ⊢
    simp only [List.mem_cons, List.not_mem_nil, or_false] at hv
    omega
  refine Ok.ite (fun _ => Ok.opt (one_ok hL h19 (by simp) (by simp)) fun ⟨v, e⟩ ⟨he, _⟩ => Ok.s ⟨he, ⟨h'.st, h'.pe, h'.de, h'.se, h'.nx⟩⟩) fun _ => ?_
  refine Ok.ite (fun _ => Ok.opt (nx hL h19 (by omega) (by omega)) fun ⟨v, e⟩ ⟨he, _⟩ => Ok.s ⟨he, ⟨h'.st, h'.pe, h'.de, h'.se, h'.nx⟩⟩) fun _ => ?_
  refine Ok.ite (fun _ => Ok.opt (one_ok hL h19 (by simp) (by simp)) fun ⟨v, e⟩ ⟨he, _⟩ => Ok.s ⟨he, ⟨h'.st, h'.pe, h'.de, h'.se, h'.nx⟩⟩) fun _ => ?_
  refine Ok.ite (fun _ => Ok.opt (one_ok hL h19 (by simp) (by simp)) fun ⟨v, e⟩ ⟨he, _⟩ => Ok.s ⟨he, ⟨h'.st, h'.pe, h'.de, h'.se, h'.nx⟩⟩) fun _ => ?_
  refine Ok.ite (fun _ => Ok.opt (one_ok hL h19 (by simp) (by simp)) fun ⟨v, e⟩ ⟨he, _⟩ => Ok.s ⟨he, ⟨h'.st, h'.pe, h'.de, h'.se, h'.nx⟩⟩) fun _ => ?_
  refine Ok.ite (fun _ => Ok.opt (one_ok hL h19 (by simp) (by simp)) fun ⟨v, e⟩ ⟨he, _⟩ => Ok.s ⟨he, ⟨h'.st, h'.pe, h'.de, h'.se, h'.nx⟩⟩) fun _ => ?_
  refine Ok.ite (fun _ => Ok.opt (nx hL h19 (by omega) (by omega)) fun ⟨v, e⟩ ⟨he, _⟩ => Ok.lec (by simp; omega) (Ok.s ⟨he, ⟨h'.st, h'.pe, h'.de, ?_, h'.nx⟩⟩)) fun _ => ?_
  · dsimp only; simp; omega
  refine Ok.ite (fun _ => Ok.opt (nx hL h19 (by omega) (by omega)) fun ⟨v, e⟩ ⟨he, _⟩ => Ok.opt (nx hL he (by omega) (by omega)) fun ⟨v2, e2⟩ ⟨he2, _⟩ => Ok.s ⟨he2, ⟨h'.st, h'.pe, by dsimp only; simp, h'.se, h'.nx⟩⟩) fun _ => ?_
  refine Ok.ite (fun _ => Ok.opt (nx hL h19 (by omega) (by omega)) fun ⟨v, e⟩ ⟨he, l1, u1⟩ => Ok.opt (one_ok hL he (by simp) (by simp)) fun ⟨v2, e2⟩ ⟨he2, _⟩ => Ok.opt (some_ok hL he2) fun ⟨v3, e3⟩ ⟨he3, hv3⟩ => Ok.lec (by simp; omega) (Ok.s ⟨he3, ⟨?_, ?_, h'.de, h'.se, h'.nx⟩⟩)) fun _ => ?_
  · dsimp only; simp; omega
  · dsimp only at l1 u1 hv3 ⊢
    refine mem_snoc h'.pe ⟨by dsimp only; omega, ?_, ?_⟩
    · dsimp only; rw [wrap_id (by omega)]; omega
    · dsimp only; rw [wrap_id (by omega)]; omega
  refine Ok.ite (fun _ => Ok.opt (one_ok hL h19 (by simp) (by simp)) fun ⟨v, e⟩ ⟨he, _⟩ => Ok.s ⟨he, ⟨h'.st, h'.pe, h'.de, h'.se, h'.nx⟩⟩) fun _ => ?_
  exact Ok.s ⟨h19, ⟨h'.st, h'.pe, h'.de, h'.se, h'.nx⟩⟩
end
theorem escalateSteps_true (t : List Int) (n : Int) : law29_EscalateSteps 1000 t n = some true := by
  refine Ok.eq ?_
  unfold law29_EscalateSteps
  refine Ok.oe light_is (Ok.ncnd (fun _ => Ok.oe sane29 (Ok.s rfl)) fun hl => Ok.oe roll_is ?_)
  have hL := light_len hl
  refine Ok.opt (crew_ok hL dice0 (by omega)) fun ⟨c, d1⟩ ⟨h1, hc⟩ => ?_
  dsimp only at h1 hc ⊢
  refine Ok.opt (book_ok hL h1 (by omega)) fun ⟨b, d2⟩ ⟨h2, hb⟩ => ?_
  dsimp only at h2 hb ⊢
  refine Ok.opt (page_ok (k := 6) hL h2 hc (by omega) hb (by omega)) fun ⟨p, now, d3⟩ ⟨h3, hp⟩ => ?_
  dsimp only at h3 hp ⊢
  have hp0 := hp.odd hb
  refine Ok.opt (oddpage_ok hL h3 hp0 (by omega)) fun ⟨o1, d4⟩ ⟨h4, ho1⟩ => ?_
  dsimp only at h4 ho1 ⊢
  refine Ok.opt (oddpage_ok hL h4 hp0 (by omega)) fun ⟨o2, d5⟩ ⟨h5, ho2⟩ => ?_
  dsimp only at h5 ho2 ⊢
  refine Ok.opt (oddpage_ok hL h5 ho2 (by omega)) fun ⟨o3, d6⟩ ⟨h6, ho3⟩ => ?_
  dsimp only at h6 ho3 ⊢
  obtain ⟨l, hl2⟩ : ∃ l : List D.Page, l = p :: (o1 :: (o3 :: [])) := ⟨_, rfl⟩
  rw [← hl2]
  have hll : l.length = 3 := by rw [hl2]; rfl
  have hlm : ∀ x ∈ l, OddB 2 x := by
    intro x hx
    rw [hl2] at hx
    simp only [List.mem_cons, List.not_mem_nil, or_false] at hx
    rcases hx with rfl | rfl | rfl
    · exact hp0.mono (by omega)
    · exact ho1.mono (by omega)
    · exact ho3
  refine Ok.loop (fun m x => ∃ (i : Nat) (d : D.Dice), x = ((n, now, l, ((l.length : Nat) : Int), (i : Int), ()), d, c, b, ()) ∧ DiceOK t d ∧ i ≤ 3 ∧ m = 3 - i) (m := 3) (by omega) ⟨0, d6, rfl, h6, by omega, rfl⟩ ?_
  rintro m y ⟨i, d, rfl, i1, i2, rfl⟩ K hK
  dsimp only
  refine Ok.ite (fun hi => ?_) (fun hi => Ok.oe sane29 (Ok.s rfl))
  have hlt : i < l.length := by omega
  refine Ok.atn hlt ?_
  have hx := hlm _ (nth_mem hlt)
  obtain ⟨x, hxe⟩ : ∃ x, nth l i = x := ⟨_, rfl⟩
  rw [hxe] at hx ⊢
  have hpx := hx.plen (by omega)
  have hde := hx.de
  refine Ok.oe due_is (Ok.oe due29_is ?_)
  refine Ok.join (fun y => y = ((n, now, l, ((l.length : Nat) : Int), (i : Int), ()), d, c, b, x, ())) (fun y hy => ?_) (fun J hJ => ?_)
  · subst hy
    dsimp only
    refine Ok.oe (step_is hc (by omega) hb hpx) (Ok.oe (step29_is hc (by omega) hb hpx) ?_)
    have hS := hpx.stepV (c := c) hb
    obtain ⟨S, e, hSe⟩ : ∃ S e, stepV c b x = (S, e) := ⟨_, _, rfl⟩
    rw [hSe] at hS ⊢
    dsimp only at hS ⊢
    refine Ok.join (fun y => y = ((n, now, l, ((l.length : Nat) : Int), (i : Int), ()), d, c, b, x, S, S, ())) (fun y hy => ?_) (fun J2 hJ2 => ?_)
    · subst hy
      dsimp only
      obtain ⟨l2, hl3⟩ : ∃ l2 : List Int, l2 = now :: (IntKind.wrap .i64 (now + 700) :: (n :: [])) := ⟨_, rfl⟩
      rw [← hl3]
      have hl2l : l2.length = 3 := by rw [hl3]; rfl
      refine Ok.loop (fun m z => ∃ (j : Nat) (y1 y2 : D.Page), z = ((n, now, l, ((l.length : Nat) : Int), (i : Int), l2, ((l2.length : Nat) : Int), (j : Int), ()), d, c, b, x, y1, y2, ()) ∧ j ≤ 3 ∧ m = 3 - j) (m := 3) (by omega) ⟨0, S, S, rfl, by omega, rfl⟩ ?_
      rintro m z ⟨j, y1, y2, rfl, j1, rfl⟩ K2 hK2
      dsimp only
      refine Ok.ite (fun hj => ?_) (fun hj => ?_)
      · have hjl : j < l2.length := by omega
        refine Ok.j (Ok.atn hjl (Ok.oe (run_is hc (by omega) hb hpx) (Ok.oe (run29_is hc (by omega) hb hpx) ?_)))
        have hR := hpx.runV (c := c) (now := nth l2 j) hb
        obtain ⟨R, e', hRe⟩ : ∃ R e, runV c b x (nth l2 j) = (R, e) := ⟨_, _, rfl⟩
        rw [hRe] at hR ⊢
        dsimp only at hR ⊢
        refine Ok.n (by simp) (Ok.oe (sameP_refl hR) (Ok.t ?_))
        rw [wrap_succ (by omega)]
        exact hK2 _ _ (by omega) ⟨j + 1, R, R, rfl, by omega, rfl⟩
      · refine Ok.loop (fun m z => ∃ (k : Int) (d : D.Dice) (y1 y2 : D.Page), z = ((n, now, k, l, ((l.length : Nat) : Int), (i : Int), ()), d, c, b, x, y1, y2, ()) ∧ DiceOK t d ∧ 0 ≤ k ∧ k ≤ 3 ∧ m = (3 - k).toNat) (m := 3) (by omega) ⟨0, d, y1, y2, rfl, i1, by omega, by omega, rfl⟩ ?_
        rintro m z ⟨k, d, y1, y2, rfl, k1, k2, k3, rfl⟩ K3 hK3
        dsimp only
        refine Ok.ite (fun hk => ?_) (fun hk => ?_)
        · refine Ok.j (Ok.opt (nx hL k1 (by omega) (by omega)) fun ⟨a116, e1⟩ ⟨f1, _⟩ => ?_)
          dsimp only at f1 ⊢
          refine Ok.opt (one_ok hL f1 (by simp) (by simp)) fun ⟨a118, e2⟩ ⟨f2, _⟩ => ?_
          dsimp only at f2 ⊢
          refine Ok.opt (one_ok hL f2 (by simp) (by simp)) fun ⟨a120, e3⟩ ⟨f3, _⟩ => ?_
          dsimp only at f3 ⊢
          refine Ok.opt (answer_ok hL f3) fun ⟨a, e4⟩ ⟨f4, _⟩ => ?_
          dsimp only at f4 ⊢
          refine Ok.join (fun y => ∃ (d : D.Dice) (a : D.Answer), y = ((n, now, k, l, ((l.length : Nat) : Int), (i : Int), ()), d, c, b, x, y1, y2, a, ()) ∧ DiceOK t d) (fun y hy => ?_) (fun J3 hJ3 => ?_)
          · obtain ⟨d, a, rfl, hd⟩ := hy
            dsimp only
            refine Ok.oe (answer_is hb hpx (by omega)) (Ok.oe (answer29_is hb hpx) ?_)
            have hA := hpx.answerV (a := a) hb
            obtain ⟨A, e', hAe⟩ : ∃ A e, answerV b x a = (A, e) := ⟨_, _, rfl⟩
            rw [hAe] at hA ⊢
            dsimp only at hA ⊢
            refine Ok.n (by simp) (Ok.oe (sameP_refl hA) (Ok.t ?_))
            rw [wrap_id (by omega)]
            exact hK3 _ _ (by omega) ⟨k + 1, d, A, A, rfl, hd, by omega, by omega, rfl⟩
          · refine Ok.opt (nx hL f4 (by omega) (by omega)) fun ⟨a143, e5⟩ ⟨f5, _⟩ => ?_
            exact Ok.ite (fun _ => hJ3 _ ⟨_, _, rfl, f5⟩) (fun _ => hJ3 _ ⟨_, _, rfl, f5⟩)
        · rw [wrap_succ (by omega)]
          exact hK _ _ (by omega) ⟨i + 1, d, rfl, k1, by omega, rfl⟩
    · exact Ok.n (by simp) (Ok.oe (sameP_refl hS) (Ok.t (hJ2 _ rfl)))
  · refine Ok.n (by simp) ?_
    refine Ok.cnd (fun g => Ok.bt g ?_) (fun g => Ok.bf g ?_)
    all_goals refine Ok.oe (check_is hb hpx) (Ok.cnd (fun g1 => Ok.oe (check29_is hb hpx) (Ok.bt g1 ?_)) (fun g1 => Ok.oe (check29_is hb hpx) (Ok.bf g1 ?_)))
    all_goals refine Ok.oe closedE_is (Ok.cnd (fun g2 => Ok.oe closed29_is (Ok.bt g2 ?_)) (fun g2 => Ok.oe closed29_is (Ok.bf g2 ?_)))
    all_goals exact Ok.oe (called_is hpx) (Ok.oe (called29_is hpx) (Ok.oe (same_is (by have := called_len hpx; omega)) (Ok.p rfl (hJ _ rfl))))
end Go.Proofs.YtfhcigjkfelnfaaGreat
