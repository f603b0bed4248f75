/-
  Pages on their way: what the reference's checks, steps, runs and answers compute.
-/
import Derived.Test.YtfhcigjkfelnfaaGreatQRowEscalateOnceF
import Derived.Test.YtfhcigjkfelnfaaGreatQRowEscalateOnceE
set_option maxRecDepth 100000
set_option linter.unusedVariables false
set_option linter.unusedSimpArgs false
namespace Go.Proofs.YtfhcigjkfelnfaaGreat
open Go AM
attribute [local irreducible] dueV stepV runV checkV
section
variable {n : Nat} {c : D.Config} {b : D.Book} {p q : D.Page} {now : Int} {a : D.Answer}
theorem rin {fu : Nat} {x lo hi : Int} : r25_In fu x lo hi = some (inV x lo hi) := by
  unfold r25_In inV
  by_cases h1 : lo ≤ x <;> by_cases h2 : x ≤ hi <;> simp [AM.cnd, h1, h2]
theorem badS_t {l : List Int} {i : Nat} : badS l i = true ↔ ¬ (0 ≤ nth l i ∧ nth l i ≤ 31 ∧ (i = 0 ∨ nth l (i - 1) < nth l i)) := by
  unfold badS
  rw [Bool.not_eq_true', Bool.eq_false_iff]
  simp only [ne_eq, Bool.and_eq_true, Bool.or_eq_true, decide_eq_true_eq, and_assoc]
theorem badS_f {l : List Int} {i : Nat} : badS l i = false ↔ (0 ≤ nth l i ∧ nth l i ≤ 31 ∧ (i = 0 ∨ nth l (i - 1) < nth l i)) := by
  rw [← Bool.not_eq_true, badS_t, Decidable.not_not]
theorem set25_is {l : List Int} (hl : l.length < 900) : r25_Set 1000 l 32 = some (setV l) := by
  refine Ok.eq ?_
  unfold r25_Set
  refine Ok.scan l.length (fun i => ((l, 32, (i : Int), ()), ())) (badS l) rfl (by omega) (fun i hi hq _ k => ?_) (fun i hi hq k hk => ?_) (fun hq k => ?_)
  · have hb := badS_t.1 hq
    dsimp only
    rw [setV_bad hi hq]
    refine Ok.p (by omega) (Ok.j (Ok.atn hi (Ok.ite (fun h1 => Ok.s rfl) (fun h1 => Ok.atn hi (Ok.ite (fun h2 => Ok.s rfl) (fun h2 => ?_))))))
    have h0 : 0 < i := by omega
    refine Ok.p (by omega) ?_
    rw [show IntKind.wrap .i64 ((i : Int) - 1) = ((i - 1 : Nat) : Int) by rw [wrap_id (by omega)]; omega]
    exact Ok.atn (by omega) (Ok.atn hi (Ok.p (by omega) (Ok.s rfl)))
  · have hb := badS_f.1 hq
    dsimp only
    refine Ok.p (by omega) (Ok.j (Ok.atn hi (Ok.n (by omega) (Ok.atn hi (Ok.n (by omega) ?_)))))
    dsimp only
    rw [wrap_succ (by omega)]
    by_cases h0 : 0 < i
    · refine Ok.p (by omega) ?_
      rw [show IntKind.wrap .i64 ((i : Int) - 1) = ((i - 1 : Nat) : Int) by rw [wrap_id (by omega)]; omega]
      exact Ok.atn (by omega) (Ok.atn hi (Ok.n (by omega) hk))
    · exact Ok.n (by omega) hk
  · exact Ok.n (by omega) (Ok.s (setV_good hq).symm)
theorem starts29_is (h : PageLen p) : r29_starts 1000 p = some (startsV p) := by
  have hst := h.st
  have hnx := h.nx
  refine Ok.eq ?_
  unfold r29_starts startsV
  refine Ok.loop (fun m x => ∃ (i : Nat) (k t : Int), x = ((k, t, (i : Int), ()), p, ()) ∧ i ≤ p.Starts.length ∧ -1 ≤ k ∧ k ≤ 1000000 ∧ startsF p.Next k t (p.Starts.drop i) = startsF p.Next (-1) p.Start p.Starts ∧ m = p.Starts.length - i) (m := p.Starts.length) (by omega)
    ⟨0, -1, p.Start, rfl, by omega, by omega, by omega, rfl, rfl⟩ ?_
  rintro m x ⟨i, k, t, rfl, h1, h2, h2', h3, rfl⟩ K hK
  dsimp only
  refine Ok.ite (fun hi => ?_) (fun hi => ?_)
  · have hlt : i < p.Starts.length := by omega
    have hs := h.pe _ (nth_mem hlt)
    refine Ok.j (Ok.atn hlt ?_)
    obtain ⟨s, hse⟩ : ∃ s, nth p.Starts i = s := ⟨_, rfl⟩
    rw [drop_nth' hlt, startsF, hse] at h3
    rw [hse] at hs ⊢
    refine Ok.join (fun y => y = ((k, (i : Int), ()), p, s, ()) ∧ t ≤ s.At ∧ (s.K = -1 ∨ 0 ≤ s.K ∧ k < s.K ∧ s.K < p.Next) ∧ setV s.People = true) (fun y hy => ?_) (fun J hJ => ?_)
    · obtain ⟨rfl, c1, c2, c3⟩ := hy
      have hC : (decide (t ≤ s.At) && (decide (s.K = -1) || decide (0 ≤ s.K) && decide (k < s.K) && decide (s.K < p.Next)) && setV s.People) = true := by
        rw [c3]; simp; omega
      rw [hC, Bool.true_and] at h3
      dsimp only
      rw [wrap_succ (by omega)]
      refine Ok.ite (fun g => ?_) (fun g => ?_)
      · rw [show max k s.K = s.K by omega] at h3
        exact hK _ _ (by omega) ⟨i + 1, s.K, s.At, rfl, by omega, by omega, by omega, h3, rfl⟩
      · rw [show max k s.K = k by omega] at h3
        exact hK _ _ (by omega) ⟨i + 1, k, s.At, rfl, by omega, by omega, by omega, h3, rfl⟩
    · refine Ok.ite (fun g1 => Ok.s ?_) (fun g1 => Ok.ite (fun g2 => Ok.s ?_) (fun g2 => Ok.ite (fun g3 => Ok.ite (fun g4 => Ok.s ?_) (fun g4 => Ok.ite (fun g5 => Ok.s ?_) (fun g5 => Ok.oe (set25_is (by omega)) (Ok.cnd (fun g6 => hJ _ ⟨rfl, by omega, by omega, g6⟩) (fun g6 => Ok.s ?_))))) (fun g3 => Ok.oe (set25_is (by omega)) (Ok.cnd (fun g6 => hJ _ ⟨rfl, by omega, by omega, g6⟩) (fun g6 => Ok.s ?_)))))
      · rw [← h3, decide_eq_false (show ¬ t ≤ s.At by omega)]; rfl
      · rw [← h3, decide_eq_false (show ¬ s.K = -1 by omega), decide_eq_false (show ¬ 0 ≤ s.K by omega)]; simp
      · rw [← h3, decide_eq_false (show ¬ s.K = -1 by omega), decide_eq_false (show ¬ k < s.K by omega)]; simp
      · rw [← h3, decide_eq_false (show ¬ s.K = -1 by omega), decide_eq_false (show ¬ s.K < p.Next by omega)]; simp
      · rw [← h3, g6]; simp
      · rw [← h3, g6]; simp
  · have e : i = p.Starts.length := by omega
    refine Ok.s ?_
    subst e
    rw [List.drop_length, startsF] at h3
    rw [← h3, Bool.true_and]
    exact decide_eq_decide.2 (by omega)
theorem count25_is {m : Nat} {q : D.Policy} (h : PolOK m q) : r25_Count 1000 q = some (countV q) := by
  have h1 := h.rep
  have h2 := h.len
  refine Ok.eq ?_
  unfold r25_Count
  refine Ok.j (Ok.oe rin (Ok.bt (inV_is.2 (by omega)) (Ok.n (by omega) (Ok.s ?_))))
  rw [(countV_is h).1, wrap_id (x := q.Repeat + 1) (by omega), wrap_id]
  have h3 : q.Repeat = 0 ∨ q.Repeat = 1 ∨ q.Repeat = 2 := by omega
  rcases h3 with h3 | h3 | h3 <;> rw [h3] <;> omega
theorem waits25_is {m : Nat} {q : D.Policy} (h : PolOK m q) : r25_Waits 1000 q = some true := by
  have h2 := h.len
  refine Ok.eq ?_
  unfold r25_Waits
  refine Ok.run2 q.Steps.length (fun i => ((i : Int), ())) rfl (by omega) (fun i hi k hk => ?_) (fun k => Ok.n (by omega) (Ok.s rfl))
  dsimp only
  have hw := (h.step _ (nth_mem hi)).wait
  refine Ok.p (by omega) (Ok.atn hi (Ok.oe rin (Ok.nt (inV_is.2 (by omega)) ?_)))
  rw [wrap_succ (by omega)]
  exact hk
theorem part25_is {m : Nat} {q : D.Policy} {i : Int} (h : PolOK m q) : r25_Part 1000 q i = some (partV q i) := by
  have h2 := h.len
  have hc := countV_is h
  refine Ok.eq ?_
  unfold r25_Part partV
  refine Ok.j (Ok.ite (fun g1 => Ok.s ?_) (fun g1 => Ok.oe (count25_is h) (Ok.ite (fun g2 => Ok.s ?_) (fun g2 => Ok.nzc (by omega) (Ok.nzc (by omega) (Ok.s ?_))))))
  · rw [if_neg (by omega)]
  · rw [if_neg (by omega)]
  · have g3 := Int.ediv_le_self (a := i) (q.Steps.length : Int) (by omega)
    have g4 : 0 ≤ i / (q.Steps.length : Int) := Int.ediv_nonneg (by omega) (by omega)
    rw [if_pos (by omega), Int.tmod_eq_emod_of_nonneg (by omega), Int.tdiv_eq_ediv_of_nonneg (by omega), wrap_id (by omega)]
def newV (b : D.Book) (id pol start : Int) : D.Page × Int :=
  if inV id 1 999999 = true ∧ inV start 0 8589934592 = true then (if inV pol 0 ((b.Policies.length : Int) - 1) = true then (newP id pol start, 0) else (page0, 3)) else (page0, 1)
theorem new29_is {id pol start : Int} (hb : BookOK b) : r29_New 1000 b id pol start = some (newV b id pol start) := by
  have hp := hb.plen
  refine Ok.eq ?_
  unfold r29_New newV
  refine Ok.j (Ok.oe rin (Ok.cnd (fun h1 => Ok.oe rin (Ok.cnd (fun h2 => ?_) (fun h2 => Ok.s ?_))) (fun h1 => Ok.s ?_)))
  · dsimp only
    rw [if_pos ⟨h1, h2⟩, wrap_id (by omega)]
    refine Ok.oe rin (Ok.ncnd (fun h3 => Ok.s ?_) (fun h3 => Ok.s ?_))
    · rw [if_neg (by rw [h3]; simp)]; rfl
    · rw [if_pos h3]; rfl
  · rw [if_neg (by rw [h2]; simp)]; rfl
  · rw [if_neg (by rw [h1]; simp)]; rfl
theorem newE_is {id pol start : Int} (hb : BookOK b) : escalate_New 1000 b id pol start = some (newV b id pol start) := new29_is hb
theorem check29_is (hb : BookOK b) (h : PageLen p) : r29_Check 1000 b p = some (checkV b p) := by
  have hde := h.de; have hse := h.se
  have hpl := hb.plen
  refine Ok.eq ?_
  unfold r29_Check
  refine Ok.j (Ok.oe (new29_is hb) ?_)
  unfold newV
  by_cases h1 : inV p.ID 1 999999 = true ∧ inV p.Start 0 8589934592 = true
  · rw [if_pos h1]
    by_cases h2 : inV p.Policy 0 ((b.Policies.length : Int) - 1) = true
    · rw [if_pos h2]
      have h2' := inV_is.1 h2
      have hq : PolOK b.Teams.length (polOf b p) := hb.pol _ (nth_mem (by omega))
      have hw := waits_true hq
      refine Ok.n (by simp) (Ok.at h2'.1 (by omega) ?_)
      show Ok (optc (r25_Waits 1000 (polOf b p)) _) _
      refine Ok.oe (waits25_is hq) (Ok.t (Ok.at h2'.1 (by omega) ?_))
      show Ok (optc (r25_Count 1000 (polOf b p)) _) _
      refine Ok.oe (count25_is hq) (Ok.oe rin (Ok.cnd (fun h4 => ?_) (fun h4 => Ok.s (by simp [checkV, h4]))))
      refine Ok.j (Ok.oe rin (Ok.cnd (fun h5 => ?_) (fun h5 => Ok.s (by simp [checkV, h5]))))
      refine Ok.oe rin (Ok.cnd (fun h6 => ?_) (fun h6 => Ok.s (by simp [checkV, h6])))
      refine Ok.oe rin (Ok.cnd (fun h7 => ?_) (fun h7 => Ok.s (by have h7 : inV p.Last p.Start farV = false := h7; simp [checkV, h7])))
      refine Ok.oe rin (Ok.cnd (fun h8 => ?_) (fun h8 => Ok.s (by have h8 : inV p.Due 0 farV = false := h8; simp [checkV, h8])))
      refine Ok.oe rin (Ok.cnd (fun h9 => ?_) (fun h9 => Ok.s (by have h9 : inV p.Until 0 farV = false := h9; simp [checkV, h9])))
      refine Ok.j (Ok.oe rin (Ok.cnd (fun h10 => ?_) (fun h10 => Ok.s (by simp [checkV, h10]))))
      refine Ok.oe rin (Ok.cnd (fun h11 => ?_) (fun h11 => Ok.s (by simp [checkV, h11])))
      refine Ok.oe (starts29_is h) (Ok.cnd (fun h12 => ?_) (fun h12 => Ok.s (by simp [checkV, h12])))
      refine Ok.oe (set25_is (by omega)) (Ok.cnd (fun h13 => ?_) (fun h13 => Ok.s (by simp [checkV, h13])))
      refine Ok.ite (fun h14 => Ok.s (by simp [checkV, seenV, decide_eq_false (show ¬ p.Seen.length ≤ 64 by omega)])) (fun h14 => ?_)
      have h7' : inV p.Last p.Start farV = true := h7
      have h8' : inV p.Due 0 farV = true := h8
      have h9' : inV p.Until 0 farV = true := h9
      have hcv : checkV b p = seenV p.Seen := by simp [checkV, h1.1, h1.2, h2, hw, h4, h5, h6, h7', h8', h9', h10, h11, h12, h13]
      rw [hcv]
      unfold seenV
      rw [decide_eq_true (show p.Seen.length ≤ 64 by omega), Bool.and_true]
      refine Ok.scan2 p.Seen.length (fun i => ((i : Int), ())) (fun i => (p.Seen.take i).contains (nth p.Seen i)) rfl (by omega) (fun i hi hq _ k => ?_) (fun i hi hq k hk => ?_) (fun hq k => ?_)
      · refine Ok.p (by omega) (Ok.natn (Ok.lec (by omega) (Ok.atn hi (Ok.oe (has25_is (by simp; omega)) (Ok.bt hq (Ok.s ?_))))))
        rw [seen_bad hi hq]
      · refine Ok.p (by omega) (Ok.natn (Ok.lec (by omega) (Ok.atn hi (Ok.oe (has25_is (by simp; omega)) (Ok.bf hq ?_)))))
        rw [wrap_succ (by omega)]; exact hk
      · exact Ok.n (by omega) (Ok.s (decide_eq_true (seen_good hq)).symm)
    · rw [if_neg h2]
      exact Ok.p (by simp) (Ok.s (by simp [checkV, h2]))
  · rw [if_neg h1]
    refine Ok.p (by simp) (Ok.s ?_)
    have : checkV b p = false := by
      rw [Bool.eq_false_iff]
      intro hc
      have hf := checkV_facts hc
      exact h1 ⟨inV_is.2 hf.id, inV_is.2 hf.start⟩
    rw [this]
end
end Go.Proofs.YtfhcigjkfelnfaaGreat
/-
  Pages on their way: what the program's answers compute.
-/
set_option maxRecDepth 100000
set_option linter.unusedVariables false
set_option linter.unusedSimpArgs false
namespace Go.Proofs.YtfhcigjkfelnfaaGreat
open Go AM
section
variable {n : Nat} {c : D.Config} {b : D.Book} {p q : D.Page} {now : Int} {a : D.Answer}
theorem due0_is : escalate_Due_0c11c12c13 1000 p = some (dueV p) := by
  unfold escalate_Due_0c11c12c13
  simp only [sameC_p]
  exact due_is
theorem waits0_is {t : Int} : escalate_waits_0c11c12c13 1000 p t = some (waitB p t) := by
  unfold escalate_waits_0c11c12c13 waitB
  simp only [sameC_p]
  rw [due0_is, optc_s]
  obtain ⟨a, d⟩ := dueV p
  cases d <;> by_cases h : a ≤ t <;> simp [AM.cnd, h]
theorem called_is (h : PageLen p) : escalate_Called 1000 p = some (calledV p) := by
  have h1 := h.st
  refine Ok.eq ?_
  unfold escalate_Called calledV
  refine Ok.ite (fun h0 => Ok.s ?_) (fun h0 => ?_)
  · rw [if_pos (List.eq_nil_iff_length_eq_zero.2 (by omega))]
  · have hne : p.Starts ≠ [] := fun e => h0 (by rw [e]; rfl)
    have hpos := List.length_pos_iff.2 hne
    rw [show IntKind.wrap .i64 (((p.Starts.length : Nat) : Int) - 1) = ((p.Starts.length - 1 : Nat) : Int) by rw [wrap_id (by omega)]; omega]
    have hp := (h.pe _ (nth_mem (l := p.Starts) (i := p.Starts.length - 1) (by omega))).1
    refine Ok.atn (by omega) (Ok.oe (cloneI_is (by omega)) (Ok.s ?_))
    rw [if_neg hne]
theorem called0_is (h : PageLen p) : escalate_Called_0c11c12c13 1000 p = some (calledV p) := by
  have h1 := h.st
  refine Ok.eq ?_
  unfold escalate_Called_0c11c12c13 calledV
  refine Ok.ite (fun h0 => Ok.sameC (Ok.sameC (Ok.sameC (Ok.s ?_)))) (fun h0 => ?_)
  · rw [if_pos (List.eq_nil_iff_length_eq_zero.2 (by omega))]
  · have hne : p.Starts ≠ [] := fun e => h0 (by rw [e]; rfl)
    have hpos := List.length_pos_iff.2 hne
    rw [show IntKind.wrap .i64 (((p.Starts.length : Nat) : Int) - 1) = ((p.Starts.length - 1 : Nat) : Int) by rw [wrap_id (by omega)]; omega]
    have hp := (h.pe _ (nth_mem (l := p.Starts) (i := p.Starts.length - 1) (by omega))).1
    refine Ok.natn (Ok.lt (by omega) (Ok.get (by omega) (Ok.oe (cloneI_is (by omega)) (Ok.sameC (Ok.sameC (Ok.sameC (Ok.s ?_)))))))
    rw [if_neg hne]
theorem called_len (h : PageLen p) : (calledV p).length ≤ 40 := by
  unfold calledV
  split
  · simp
  · rename_i hne
    have hpos := List.length_pos_iff.2 hne
    exact (h.pe _ (nth_mem (by omega))).1
theorem refused_is : escalate_refused_0c11c12c13 1000 p a = some (refusedV p a) := by
  refine Ok.eq ?_
  unfold escalate_refused_0c11c12c13
  refine Ok.join (fun y => y.1.1 = decide ((a.Kind = 3 ∧ p.Snoozes = 4) ∨ (a.Kind = 4 ∧ (p.Hands = 4 ∨ p.Starts.length = 200))) ∧ y.2 = (pgA p, a, p.Starts, p.Declined, p.Seen, ())) (fun y hy => ?_) (fun J hJ => ?_)
  · obtain ⟨⟨full, ⟨⟩⟩, r⟩ := y
    obtain ⟨h1, h2⟩ := hy
    dsimp only at h1 h2
    subst h2
    dsimp only [pgA]
    refine Ok.j (Ok.ite (fun g1 => Ok.sameC (Ok.sameC (Ok.sameC (Ok.s ?_)))) (fun g1 => ?_))
    · unfold refusedV; rw [if_pos (.inl g1)]
    refine Ok.oe (waits0_is (p := p)) (Ok.cnd (fun g2 => Ok.sameC (Ok.sameC (Ok.sameC (Ok.s ?_)))) (fun g2 => ?_))
    · unfold refusedV; rw [if_pos (.inr g2)]
    unfold refusedV
    rw [if_neg (by rw [g2]; simp; omega)]
    refine Ok.join (fun y => y.1.1 = full ∧ y.1.2.1 = decide (p.State = 4 ∨ (p.State = 3 ∧ a.Kind ≠ 5) ∨ (p.State = 1 ∧ a.Kind = 2)) ∧ y.2 = (pgA p, p.Starts, p.Declined, p.Seen, ())) (fun y hy => ?_) (fun J hJ => ?_)
    · obtain ⟨⟨f2, s2, ⟨⟩⟩, r⟩ := y
      obtain ⟨k1, k2, k3⟩ := hy
      dsimp only at k1 k2 k3
      subst k3; subst k1
      dsimp only [pgA]
      refine Ok.cnd (fun g3 => Ok.sameC (Ok.sameC (Ok.sameC (Ok.s ?_)))) (fun g3 => ?_)
      · rw [k2] at g3; rw [if_pos (of_decide_eq_true g3)]
      · rw [k2] at g3; rw [if_neg (of_decide_eq_false g3)]
        refine Ok.ite (fun g4 => Ok.sameC (Ok.sameC (Ok.sameC (Ok.s ?_)))) (fun g4 => ?_)
        · rw [if_pos (.inl (by omega))]
        · refine Ok.cnd (fun g5 => Ok.sameC (Ok.sameC (Ok.sameC (Ok.s ?_)))) (fun g5 => Ok.sameC (Ok.sameC (Ok.sameC (Ok.s ?_))))
          · rw [h1] at g5; have := of_decide_eq_true g5; rw [if_pos (.inr this)]
          · rw [h1] at g5; have := of_decide_eq_false g5; rw [if_neg (by omega)]
    · refine Ok.ite (fun g3 => hJ _ ⟨rfl, ?_, rfl⟩) (fun g3 => Ok.ite (fun g4 => Ok.ite (fun g5 => hJ _ ⟨rfl, ?_, rfl⟩) (fun g5 => Ok.ite (fun g6 => Ok.ite (fun g7 => hJ _ ⟨rfl, ?_, rfl⟩) (fun g7 => hJ _ ⟨rfl, ?_, rfl⟩)) (fun g6 => hJ _ ⟨rfl, ?_, rfl⟩))) (fun g4 => Ok.ite (fun g6 => Ok.ite (fun g7 => hJ _ ⟨rfl, ?_, rfl⟩) (fun g7 => hJ _ ⟨rfl, ?_, rfl⟩)) (fun g6 => hJ _ ⟨rfl, ?_, rfl⟩)))
      all_goals (dsimp only; first | exact (decide_eq_true (by omega)).symm | exact (decide_eq_false (by omega)).symm | exact decide_eq_decide.2 (by omega))
  · refine Ok.ite (fun g1 => Ok.ite (fun g2 => hJ _ ⟨?_, rfl⟩) (fun g2 => Ok.ite (fun g3 => Ok.ite (fun g4 => hJ _ ⟨?_, rfl⟩) (fun g4 => Ok.ite (fun g5 => hJ _ ⟨?_, rfl⟩) (fun g5 => hJ _ ⟨?_, rfl⟩))) (fun g3 => hJ _ ⟨?_, rfl⟩)))
      (fun g1 => Ok.ite (fun g3 => Ok.ite (fun g4 => hJ _ ⟨?_, rfl⟩) (fun g4 => Ok.ite (fun g5 => hJ _ ⟨?_, rfl⟩) (fun g5 => hJ _ ⟨?_, rfl⟩))) (fun g3 => hJ _ ⟨?_, rfl⟩))
    all_goals (dsimp only; first | exact (decide_eq_true (by omega)).symm | exact (decide_eq_false (by omega)).symm)
theorem swap_perm {l : List Int} {j : Nat} (h1 : 1 ≤ j) (hj : j < l.length) : (swapL l j).Perm l := by
  unfold swapL
  have e1 : nth l j = l[j] := by simp [nth, List.getD_eq_getElem?_getD, List.getElem?_eq_getElem hj]
  have e2 : nth l (j - 1) = l[j - 1] := by simp [nth, List.getD_eq_getElem?_getD, List.getElem?_eq_getElem (show j - 1 < l.length by omega)]
  rw [e1, e2]
  exact List.set_set_perm hj (by omega)
theorem isort0_ok {l0 : List Int} (hs : l0.length ≤ 900) :
    Ok (slices_insertionSortOrdered_int_0 1000 l0 0 ((l0.length : Nat) : Int)) fun r => r.Perm l0 ∧ SortedTo r l0.length := by
  obtain ⟨m, hm⟩ : ∃ m, l0.length = m := ⟨_, rfl⟩
  rw [hm]
  rw [hm] at hs
  unfold slices_insertionSortOrdered_int_0
  refine Ok.loop (fun q x => ∃ i a, x = ((0, (m : Int), ((i : Nat) : Int), ()), a, ()) ∧ 1 ≤ i ∧ a.Perm l0 ∧ SortedTo a (min i m) ∧ q = m + 1 - i) (m := m) (by omega)
    ⟨1, l0, by rw [wrap_id (by omega)]; rfl, by omega, .refl _, fun a b h1 h2 => by omega, by omega⟩ ?_
  rintro q x ⟨i, a, rfl, h1, h2, h3, rfl⟩ K hK
  have hal := h2.length_eq
  dsimp only
  refine Ok.ite (fun hi => ?_) (fun hi => Ok.s ⟨h2, by rw [show min i m = m by omega] at h3; exact h3⟩)
  have hlt : i < m := by omega
  rw [show min i m = i by omega] at h3
  refine Ok.j ?_
  refine Ok.loop (fun q x => ∃ j a', x = ((0, (m : Int), ((i : Nat) : Int), ((j : Nat) : Int), ()), a', ()) ∧ j ≤ i ∧ a'.Perm l0 ∧ ButFor a' (i + 1) j ∧ q = j) (m := i) (by omega)
    ⟨i, a, rfl, by omega, h2, butfor_start h3, rfl⟩ ?_
  rintro q x ⟨j, a', rfl, g1, g2, g3, hqj⟩ K2 hK2
  have hal' := g2.length_eq
  dsimp only
  have fin : (j = 0 ∨ nth a' (j - 1) ≤ nth a' j) → Ok (K ((0, (m : Int), IntKind.wrap .i64 ((i : Int) + 1), ()), a', ())) fun r => r.Perm l0 ∧ SortedTo r m := fun he => by
    rw [wrap_succ (by omega)]
    exact hK (m + 1 - (i + 1)) _ (by omega) ⟨i + 1, a', rfl, by omega, g2, by rw [show min (i + 1) m = i + 1 by omega]; exact butfor_end g3 he, rfl⟩
  refine Ok.j (Ok.ite (fun hj => ?_) (fun hj => fin (.inl (by omega))))
  have hw : IntKind.wrap .i64 ((j : Int) - 1) = ((j - 1 : Nat) : Int) := by rw [wrap_id (by omega)]; omega
  rw [hw]
  refine Ok.natn (Ok.lt (by omega) (Ok.get (by omega) (Ok.natn (Ok.lt (by omega) (Ok.get (by omega) (Ok.oe less_is (Ok.ite (fun hless => ?_) (fun hless => fin (.inr (by omega))))))))))
  dsimp only
  rw [hw]
  refine Ok.natn (Ok.lt (by omega) (Ok.get (by omega) (Ok.natn (Ok.lt (by omega) (Ok.get (by omega) (Ok.natn (Ok.lt (by omega) (Ok.get (by omega) (Ok.natn (Ok.lt (by simp; omega) (Ok.get (by simp; omega) ?_)))))))))))
  have hsw : (a'.set j (nth a' (j - 1))).set (j - 1) (nth a' j) = swapL a' j := rfl
  rw [hsw]
  exact hK2 (j - 1) _ (by omega) ⟨j - 1, swapL a' j, rfl, by omega, (swap_perm (by omega) (by omega)).trans g2, butfor_step g3 (by omega) (by omega) (by omega) hless, rfl⟩
theorem sort0_ok {l0 : List Int} (hs : l0.length ≤ 12) :
    Ok (slices_Sort_int_0 1000 l0) fun r => r.Perm l0 ∧ SortedTo r l0.length := by
  unfold slices_Sort_int_0
  obtain ⟨bv, hb⟩ := Option.isSome_iff_exists.1 (bits_ok l0.length (by omega))
  refine Ok.oe hb (Ok.opt (P := fun r => r.Perm l0 ∧ SortedTo r l0.length) ?_ fun r hr => Ok.ck hr.1.length_eq (Ok.s hr))
  unfold slices_pdqsortOrdered_int_0
  refine Ok.loop (fun q x => x = ((0, ((l0.length : Nat) : Int), bv, true, true, ()), l0, ())) (m := 0) (by omega) rfl ?_
  rintro q x rfl K hK
  dsimp only
  refine Ok.p (by rw [wrap_id (by omega)]; omega) (Ok.opt (isort0_ok (by omega)) fun r hr => Ok.ck hr.1.length_eq (Ok.s hr))
theorem asc_sorted {l : List Int} (h : SortedTo l l.length) (hd : l.Nodup) : Asc l := by
  refine asc_of h fun k h1 h2 e => ?_
  have e1 : nth l (k - 1) = l[k - 1] := by simp [nth, List.getD_eq_getElem?_getD, List.getElem?_eq_getElem (show k - 1 < l.length by omega)]
  have e2 : nth l k = l[k] := by simp [nth, List.getD_eq_getElem?_getD, List.getElem?_eq_getElem h2]
  rw [e1, e2] at e
  have := (List.nodup_iff_pairwise_ne.1 hd)
  exact (List.pairwise_iff_getElem.1 this (k - 1) k (by omega) h2 (by omega)) e
theorem asc_nodup {l : List Int} (h : Asc l) : l.Nodup := List.Pairwise.imp (fun h => by omega) h
theorem sort_plus {l r : List Int} {x : Int} (hl : Asc l) (hx : l.contains x = false) (hp : r.Perm (l ++ [x])) (hs : SortedTo r r.length) : r = plusV l x := by
  have hnd : (l ++ [x]).Nodup := List.nodup_append.2 ⟨asc_nodup hl, by simp, fun y hy z hz e => by
    rw [List.mem_singleton.1 hz] at e
    subst e
    rw [List.contains_iff_mem.2 hy] at hx; simp at hx⟩
  refine asc_ext (asc_sorted hs (hp.nodup_iff.2 hnd)) (plusV_is hl).1 fun z => ?_
  rw [hp.mem_iff, (plusV_is hl).2]; simp
theorem decl1_is {x : Int} (h : p.Declined.length ≤ 40) : escalate_declined_1_b11_12_13 1000 x p = some (!p.Declined.contains x, p) := by
  unfold escalate_declined_1_b11_12_13
  rw [contains0_is (by omega), optc_s]
theorem containsD_is {l : List Int} (hl : l.length ≤ 900) (h : p.Declined.length ≤ 40) : slices_ContainsFunc_int_1Fescalate_declined_1b11_12_13 1000 l p = some (l.any fun z => !p.Declined.contains z, p) := by
  refine Ok.eq ?_
  unfold slices_ContainsFunc_int_1Fescalate_declined_1b11_12_13 slices_IndexFunc_int_1Fescalate_declined_1b11_12_13
  refine Ok.opt (P := fun (r : Int × D.Page) => decide (0 ≤ r.1) = (l.any fun z => !p.Declined.contains z) ∧ r.2 = p) ?_ fun ⟨r, p'⟩ ⟨e1, e2⟩ => Ok.s (by dsimp only at e1 e2; rw [e1, e2])
  refine Ok.scan2 l.length (fun i => (l, ((l.length : Nat) : Int), (i : Int), ())) (fun i => !p.Declined.contains (nth l i)) rfl (by omega) (fun i hi hq _ k => ?_) (fun i hi hq k hk => ?_) (fun hq k => ?_)
  · refine Ok.p (by omega) (Ok.atn hi (Ok.oe (decl1_is (p := p) h) (Ok.bt hq (Ok.s ⟨?_, rfl⟩))))
    rw [any_yes hi hq]; simp
  · refine Ok.p (by omega) (Ok.atn hi (Ok.oe (decl1_is (p := p) h) (Ok.bf hq ?_)))
    rw [wrap_succ (by omega)]; exact hk
  · refine Ok.n (by omega) (Ok.s ⟨?_, rfl⟩)
    rw [any_no hq]; rfl
theorem declQ_len (hs : setV p.Declined = true) (hd : p.Declined.length ≤ 11) : (declQ p a).length ≤ 40 := by
  unfold declQ
  split
  · have hde := setV_is.1 hs
    unfold plusV
    have h1 := List.length_filter_le (fun z => decide (z < a.Person)) p.Declined
    have h2 := List.length_filter_le (fun z => decide (a.Person < z)) p.Declined
    simp only [List.length_append, List.length_cons]; omega
  · omega
theorem declined_is (h : PageLen p) (hd : p.Declined.length ≤ 11) (hs : setV p.Declined = true) :
    escalate_declined_0c11c12c13 1000 p a = some { p with Declined := declQ p a, Due := if allDown p a = true ∧ p.State = 0 then a.At else p.Due } := by
  have hcl := called_len h
  refine Ok.eq ?_
  unfold escalate_declined_0c11c12c13
  refine Ok.oe (called0_is h) ?_
  refine Ok.join (fun y => y = ((calledV p, ()), pgA p, a, page0, p.Starts, declQ p a, p.Seen, ())) (fun y hy => ?_) (fun J hJ => ?_)
  · subst hy
    dsimp only [pgA]
    have hdl := declQ_len (a := a) hs hd
    refine Ok.j (Ok.ite (fun g1 => Ok.ite (fun g2 => ?_) (fun g2 => Ok.s ?_)) (fun g1 => Ok.s ?_))
    · refine Ok.oe (containsD_is (p := { p with Declined := declQ p a }) (by omega) hdl) (Ok.cnd (fun g3 => Ok.s ?_) (fun g3 => Ok.s ?_))
      · have : allDown p a = false := by
          unfold allDown
          rw [Bool.and_eq_false_iff]
          refine .inr ?_
          obtain ⟨z, hz1, hz2⟩ := List.any_eq_true.1 g3
          refine List.all_eq_false.2 ⟨z, hz1, ?_⟩
          simpa using hz2
        rw [this, if_neg (by simp)]
      · have : allDown p a = true := by
          unfold allDown
          rw [Bool.and_eq_true]
          refine ⟨decide_eq_true fun e => by rw [e] at g2; simp at g2, List.all_eq_true.2 fun z hz => ?_⟩
          have := List.any_eq_false.1 g3 z hz
          simpa using this
        rw [this, if_pos ⟨rfl, g1⟩]
    · have : allDown p a = false := by
        unfold allDown
        rw [decide_eq_false (fun hne => hne (List.eq_nil_iff_length_eq_zero.2 (by omega)))]; rfl
      rw [this, if_neg (by simp)]
    · rw [if_neg (fun hx => g1 hx.2)]
  · refine Ok.oe (contains_is (by omega)) (Ok.cnd (fun g1 => ?_) (fun g1 => ?_))
    · refine Ok.oe (contains0_is (by omega)) (Ok.cnd (fun g2 => ?_) (fun g2 => ?_))
      · refine hJ _ ?_
        have : declQ p a = p.Declined := by
          unfold declQ
          rw [if_pos g1]; exact plusV_old (setV_is.1 hs).1 (List.contains_iff_mem.1 g2)
        rw [this]; rfl
      · refine Ok.lec (by simp; omega) (Ok.opt (sort0_ok (by simp; omega)) fun r ⟨hr1, hr2⟩ => Ok.ck hr1.length_eq (hJ _ ?_))
        have : r = declQ p a := by
          unfold declQ
          rw [if_pos g1]
          exact sort_plus (setV_is.1 hs).1 g2 hr1 (by rw [hr1.length_eq]; exact hr2)
        rw [this]; rfl
    · refine hJ _ ?_
      have : declQ p a = p.Declined := by unfold declQ; rw [if_neg (by rw [g1]; simp)]
      rw [this]; rfl
theorem answer_is (hb : BookOK b) (h : PageLen p) (hd : p.Declined.length ≤ 11) : escalate_Answer 1000 c b p a = some (answerV b p a) := by
  have hse := h.se; have hst := h.st
  refine Ok.eq ?_
  unfold escalate_Answer
  refine Ok.join (fun y => y = ((), p, a, page0, ()) ∧ checkV b p = true ∧ validV a = true) (fun y hy => ?_) (fun J hJ => ?_)
  · obtain ⟨rfl, hc, hv⟩ := hy
    dsimp only
    unfold answerV
    rw [if_neg (by rw [hc, hv]; simp)]
    have hf := checkV_facts hc
    have hv' := hv
    unfold validV at hv'
    simp only [Bool.and_eq_true, inV_is] at hv'
    obtain ⟨⟨⟨⟨⟨v1, v2⟩, v3⟩, v4⟩, v5⟩, v6⟩ := hv'
    have hsn := hf.snoozes; have hha := hf.hands
    refine Ok.ite (fun g1 => Ok.s ?_) (fun g1 => ?_)
    · rw [if_pos g1]; rfl
    rw [if_neg g1]
    refine Ok.oe (copied_is h) (Ok.oe (contains0_is (by omega)) (Ok.cnd (fun g2 => Ok.s ?_) (fun g2 => ?_)))
    · rw [if_pos g2]
    rw [if_neg (by rw [g2]; simp)]
    refine Ok.oe refused_is (Ok.ite (fun g3 => Ok.s ?_) (fun g3 => ?_))
    · rw [if_pos g3]; rfl
    rw [if_neg g3]
    refine Ok.lec (by simp; omega) ?_
    refine Ok.join (fun y => y = ((), pgA p, a, page0, p.Starts, p.Declined, p.Seen ++ [a.ID], ()) ∧ ¬ (a.Kind = 1 ∧ p.State = 1)) (fun y hy => ?_) (fun J hJ => ?_)
    · obtain ⟨rfl, hn⟩ := hy
      dsimp only [pgA]
      unfold answerQ
      refine Ok.j (Ok.ite (fun k1 => Ok.s ?_) (fun k1 => Ok.ite (fun k2 => ?_) (fun k2 => Ok.ite (fun k3 => Ok.s ?_) (fun k3 => Ok.ite (fun k4 => Ok.lec (by simp; omega) (Ok.s ?_)) (fun k4 => Ok.ite (fun k5 => Ok.s ?_) (fun k5 => absurd v5 (by omega)))))))
      · rw [if_pos k1, if_neg (by omega)]
      · rw [if_neg k1, if_pos k2]
        have hp' : PageLen { p with Last := a.At, Seen := p.Seen ++ [a.ID] } := ⟨h.st, h.pe, h.de, by have := hf.seen; dsimp only; simp; omega, h.nx⟩
        exact Ok.oe (declined_is (p := { p with Last := a.At, Seen := p.Seen ++ [a.ID] }) hp' hd hf.declined) (Ok.s rfl)
      · rw [if_neg k1, if_neg k2, if_pos k3]
        rw [if_pos k3] at v6
        have v6 := inV_is.1 v6
        rw [wrap_id (by omega), wrap_id (by omega)]
      · rw [if_neg k1, if_neg k2, if_neg k3, if_pos k4, wrap_id (by omega), wrap_id (by omega)]
      · rw [if_neg k1, if_neg k2, if_neg k3, if_neg k4]
    · refine Ok.ite (fun k1 => Ok.ite (fun k2 => Ok.s ?_) (fun k2 => hJ _ ⟨rfl, by omega⟩)) (fun k1 => hJ _ ⟨rfl, by omega⟩)
      unfold answerQ
      rw [if_pos k1, if_pos k2]
  · refine Ok.oe (check_is hb h) (Ok.cnd (fun g1 => Ok.oe valid_is (Ok.cnd (fun g2 => hJ _ ⟨rfl, g1, g2⟩) (fun g2 => Ok.s ?_))) (fun g1 => Ok.s ?_))
    · unfold answerV; rw [if_pos (.inr g2)]; rfl
    · unfold answerV; rw [if_pos (.inl g1)]; rfl
end
end Go.Proofs.YtfhcigjkfelnfaaGreat
/-
  Pages on their way: what the reference's answers compute; pages compared.
-/
set_option maxRecDepth 100000
set_option linter.unusedVariables false
set_option linter.unusedSimpArgs false
namespace Go.Proofs.YtfhcigjkfelnfaaGreat
open Go AM
section
variable {n : Nat} {c : D.Config} {b : D.Book} {p q : D.Page} {now : Int} {a : D.Answer}
end
end Go.Proofs.YtfhcigjkfelnfaaGreat
/-
  What else is kept of made pages: who declined, which answers were seen. Plain Lean.
-/
set_option maxRecDepth 100000
set_option linter.unusedVariables false
set_option linter.unusedSimpArgs false
namespace Go.Proofs.YtfhcigjkfelnfaaGreat
open Go AM
section
variable {n : Nat} {c : D.Config} {b : D.Book} {p q : D.Page} {now k M : Int} {a : D.Answer} {Q : Int → D.Start → Prop}
structure PgX (k : Int) (p : D.Page) : Prop where
  decl : ∀ x ∈ p.Declined, x < 4
  seen : ∀ x ∈ p.Seen, 1 ≤ x ∧ x ≤ k
theorem PgX.mono {k' : Int} (h : PgX k p) (hk : k ≤ k') : PgX k' p := ⟨h.decl, fun x hx => ⟨(h.seen x hx).1, Int.le_trans (h.seen x hx).2 hk⟩⟩
theorem PgX.step (h : PgX k p) : PgX k (stepQ c b p) := by
  unfold stepQ
  split
  · exact ⟨h.decl, h.seen⟩
  · split
    · exact ⟨h.decl, h.seen⟩
    · exact ⟨by simp, h.seen⟩
theorem PgX.run (h : PgX k p) (hb : BookOK b) (hQ : StepQ Q M c b) (hi : PageInv Q M b p) : PgX k (runV c b p now).1 :=
  runV_ind hb hQ (fun q _ _ hr => hr.step) hi h
theorem plusV_mem {l : List Int} {x z : Int} (h : z ∈ plusV l x) : z ∈ l ∨ z = x := by
  unfold plusV at h
  rcases List.mem_append.1 h with h | h
  · exact .inl (List.mem_filter.1 h).1
  · rcases List.mem_cons.1 h with h | h
    · exact .inr h
    · exact .inl (List.mem_filter.1 h).1
theorem PgX.answer (h : PgX k p) (ha : a.Person < 4) (hi : 1 ≤ a.ID ∧ a.ID ≤ k) : PgX k (answerQ p a) := by
  have hs : ∀ x ∈ p.Seen ++ [a.ID], 1 ≤ x ∧ x ≤ k := mem_snoc h.seen hi
  have hd : ∀ x ∈ declQ p a, x < 4 := by
    unfold declQ
    split
    · intro x hx
      rcases plusV_mem hx with hx | rfl
      · exact h.decl x hx
      · exact ha
    · exact h.decl
  unfold answerQ
  split
  · split
    · exact ⟨h.decl, hs⟩
    · exact ⟨h.decl, hs⟩
  · split
    · exact ⟨hd, hs⟩
    · split
      · exact ⟨h.decl, hs⟩
      · split
        · exact ⟨by simp, hs⟩
        · exact ⟨h.decl, hs⟩
theorem PgX.dlen (h : PgX k p) (hi : setV p.Declined = true) : p.Declined.length ≤ 4 := by
  have hs := setV_is.1 hi
  exact asc4_len hs.1 fun z hz => ⟨(hs.2 z hz).1, h.decl z hz⟩
theorem PgX.new {id pol start : Int} : PgX k (newP id pol start) := ⟨by simp [newP], by simp [newP]⟩
end
end Go.Proofs.YtfhcigjkfelnfaaGreat
/-
  How the statements begin: light inputs, dice.
-/
set_option linter.unusedVariables false
namespace Go.Proofs.YtfhcigjkfelnfaaGreat
open Go AM
theorem light_is {t : List Int} : made_Light 1000 t = some (decide (((t.length : Nat) : Int) ≤ 500)) := rfl
theorem roll_is {t : List Int} : made_Roll 1000 t = some ⟨t, 0⟩ := rfl
theorem dice0 {t : List Int} : DiceOK t ⟨t, 0⟩ := ⟨rfl, Int.le_refl _, by dsimp only; omega⟩
theorem light_len {t : List Int} (h : decide (((t.length : Nat) : Int) ≤ 500) = true) : t.length ≤ 500 := by have := of_decide_eq_true h; omega
end Go.Proofs.YtfhcigjkfelnfaaGreat
/-
  Pages and answers that are made by dice: what holds of them.
-/
set_option maxRecDepth 100000
set_option linter.unusedVariables false
set_option linter.unusedSimpArgs false
namespace Go.Proofs.YtfhcigjkfelnfaaGreat
open Go AM
attribute [local irreducible] dueV stepV runV checkV answerV
section
variable {n : Nat} {c : D.Config} {b : D.Book} {p q : D.Page} {now k M : Int} {a : D.Answer} {Q : Int → D.Start → Prop} {L : List Int} {d : D.Dice}
structure AnsOK (a : D.Answer) : Prop where
  pers : -1 ≤ a.Person ∧ a.Person < 4
  kind : 1 ≤ a.Kind ∧ a.Kind ≤ 5
  arg3 : a.Kind = 3 → 1 ≤ a.Arg ∧ a.Arg ≤ 5000
  arg4 : a.Kind = 4 → 0 ≤ a.Arg ∧ a.Arg < 4
  arg0 : a.Kind ≠ 3 → a.Kind ≠ 4 → a.Arg = 0
theorem AnsOK.valid (h : AnsOK a) (h1 : 1 ≤ a.ID ∧ a.ID ≤ 999999) (h2 : 1 ≤ a.Page ∧ a.Page ≤ 999999) (h3 : 0 ≤ a.At ∧ a.At ≤ 8589934592) : validV a = true := by
  have hp := h.pers; have hk := h.kind
  unfold validV
  rw [inV_is.2 h1, inV_is.2 h2, inV_is.2 (show -1 ≤ a.Person ∧ a.Person ≤ 31 by omega), inV_is.2 h3, inV_is.2 hk]
  simp only [Bool.true_and]
  split
  · rename_i k3; have := h.arg3 k3; exact inV_is.2 (by omega)
  · split
    · rename_i k4; have := h.arg4 k4; exact inV_is.2 (by omega)
    · rename_i k3 k4; exact decide_eq_true (h.arg0 k3 k4)
theorem answer_ok {id page at_ : Int} (hL : L.length ≤ 500) (hd : DiceOK L d) : Ok (made_Dice_Answer 1000 d id page at_) fun r => DiceOK L r.2 ∧ AnsOK r.1 ∧ r.1.ID = id ∧ r.1.Page = page ∧ r.1.At = at_ := by
  unfold made_Dice_Answer
  refine Ok.opt (nx hL hd (by omega) (by omega)) fun ⟨a0, d1⟩ ⟨h1, l1, u1⟩ => ?_
  dsimp only at h1 l1 u1 ⊢
  refine Ok.opt (nx hL h1 (by omega) (by omega)) fun ⟨a2, d3⟩ ⟨h3, l3, u3⟩ => ?_
  dsimp only at h3 l3 u3 ⊢
  rw [wrap_id (x := 1 + a2) (by omega), wrap_id (x := a0 - 1) (by omega)]
  refine Ok.j (Ok.ite (fun g => ?_) (fun g => Ok.ite (fun g' => ?_) (fun g' => ?_)))
  · refine Ok.opt (one_ok hL h3 (by simp) (by simp)) fun ⟨a8, d9⟩ ⟨h9, m9⟩ => Ok.s ⟨h9, ⟨by dsimp only; omega, by dsimp only; omega, fun _ => ?_, fun e => ?_, fun e => absurd g e⟩, rfl, rfl, rfl⟩
    · dsimp only at m9 ⊢
      simp only [List.mem_cons, List.not_mem_nil, or_false] at m9
      omega
    · dsimp only at e; omega
  · refine Ok.opt (nx hL h3 (by omega) (by omega)) fun ⟨a10, d11⟩ ⟨h11, l11, u11⟩ => Ok.s ⟨h11, ⟨by dsimp only; omega, by dsimp only; omega, fun e => ?_, fun _ => ⟨l11, u11⟩, fun _ e => absurd g' e⟩, rfl, rfl, rfl⟩
    dsimp only at e; omega
  · exact Ok.s ⟨h3, ⟨by dsimp only; omega, by dsimp only; omega, fun e => absurd e g, fun e => absurd e g', fun _ _ => rfl⟩, rfl, rfl, rfl⟩
theorem runV_pair (hb : BookOK b) (hQ : StepQ Q M c b) (h : PageInv Q M b p) (now : Int) : ∃ q, runV c b p now = (q, 0) ∧ PageInv Q M b q ∧ waitB q now = false ∧ Kept p q := by
  have h1 := runV_inv (now := now) hb hQ h
  have h2 := runV_kept (now := now) hb hQ h
  rcases hr : runV c b p now with ⟨q, e⟩
  rw [hr] at h1 h2
  obtain ⟨a1, a2, a3⟩ := h1
  dsimp only at a1 a2 a3 h2
  subst a2
  exact ⟨q, rfl, a1, a3, h2⟩
theorem runV_pairL (hb : BookOK b) (hQ : StepQ Q M c b) (h : PageInv Q M b p) (hx : PgX k p) (hl : p.Last ≤ now) : ∃ q, runV c b p now = (q, 0) ∧ PageInv Q M b q ∧ waitB q now = false ∧ Kept p q ∧ PgX k q ∧ q.Last ≤ now := by
  obtain ⟨q, h1, h2, h3, h4⟩ := runV_pair hb hQ h now
  have h5 := hx.run (now := now) hb hQ h
  have h6 := runV_last (now := now) hb hQ h hl
  rw [h1] at h5 h6
  exact ⟨q, h1, h2, h3, h4, h5, h6⟩
theorem answerV_pair (hb : BookOK b) (h : PageInv Q M b p) (hx : PgX k p) (hv : validV a = true) (hp : a.Page = p.ID) (ha : a.At ≤ M - 20000) (hs : a.Kind = 3 → a.Arg ≤ 5000) (hpe : a.Person < 4) (hk : 1 ≤ a.ID ∧ a.ID ≤ k) (hl : p.Last ≤ a.At) :
    ((answerV b p a).2 ≠ 0) ∨ ∃ q, answerV b p a = (q, 0) ∧ PageInv Q M b q ∧ PgX k q ∧ q.Last ≤ a.At ∧ q.ID = p.ID ∧ q.Policy = p.Policy ∧ q.Start = p.Start ∧ q.Next = p.Next := by
  by_cases hse : p.Seen.contains a.ID = true
  · exact .inr ⟨p, answerV_old (h.check hb) hv hp hse, h, hx, hl, rfl, rfl, rfl, rfl⟩
  · have hse : p.Seen.contains a.ID = false := by simpa using hse
    rw [answerV_new (h.check hb) hv hp hse]
    by_cases hr : refusedV p a = 0
    · rw [if_neg (by simp [hr])]
      exact .inr ⟨_, rfl, h.answerQ_inv hb hv ha hs hse hr, hx.answer hpe hk, answerQ_last hl, answerQ_id⟩
    · rw [if_pos hr]; exact .inl hr
end
end Go.Proofs.YtfhcigjkfelnfaaGreat
/-
  The laws EscalateEnds and EscalateSplits, of what is reckoned of their code.
-/
set_option maxRecDepth 100000
set_option linter.unusedVariables false
set_option linter.unusedSimpArgs false
namespace Go.Proofs.YtfhcigjkfelnfaaGreat
open Go AM
attribute [local irreducible] dueV stepV runV checkV answerV
theorem sane29 : law29_sane 1000 = some true := by kernel_rfl
end Go.Proofs.YtfhcigjkfelnfaaGreat
/-
  The law EscalateOnce, of what is reckoned of its code.
-/
set_option maxRecDepth 100000
set_option linter.unusedVariables false
set_option linter.unusedSimpArgs false
namespace Go.Proofs.YtfhcigjkfelnfaaGreat
open Go AM
attribute [local irreducible] dueV stepV runV checkV answerV
theorem call_has {c : D.Config} {b : D.Book} {s : D.PolicyStep} {t x : Int} (hx : x ∈ peopleV c b s.Targets t) : (callV c b s t).contains x = reachV c x t s.Urgent := by
  rw [Bool.eq_iff_iff, List.contains_iff_mem]
  unfold callV
  rw [List.mem_filter]
  exact ⟨fun h => h.2, fun h => ⟨hx, h⟩⟩
theorem call_in {c : D.Config} {b : D.Book} {s : D.PolicyStep} {t x : Int} (hx : x ∈ callV c b s t) : (peopleV c b s.Targets t).contains x = true :=
  List.contains_iff_mem.2 (List.mem_filter.1 hx).1
theorem escalateOnce_true (t : List Int) : law29_EscalateOnce 1000 t = some true := by
  refine Ok.eq ?_
  unfold law29_EscalateOnce
  refine Ok.oe light_is (Ok.ncnd (fun _ => Ok.oe sane29 (Ok.s rfl)) fun hl => Ok.oe roll_is ?_)
  have hL := light_len hl
  refine Ok.opt (crew_ok hL dice0 (by omega)) fun ⟨c, d1⟩ ⟨h1, hc⟩ => ?_
  dsimp only at h1 hc ⊢
  refine Ok.opt (book_ok hL h1 (by omega)) fun ⟨b, d2⟩ ⟨h2, hb⟩ => ?_
  dsimp only at h2 hb ⊢
  have hpl := hb.plen
  have hnew : newV b 1 0 864000 = (newP 1 0 864000, 0) := by
    unfold newV
    rw [if_pos ⟨inV_is.2 (by omega), inV_is.2 (by omega)⟩, if_pos (inV_is.2 (by omega))]
  refine Ok.oe (newE_is hb) ?_
  rw [hnew]
  dsimp only
  refine Ok.n (by simp) ?_
  refine Ok.loop (fun m x => ∃ (now i : Int) (d : D.Dice) (p : D.Page), x = ((now, i, ()), d, c, b, p, ()) ∧ DiceOK t d ∧ PageInv (QP c b) 1000000 b p ∧ PgX i p ∧ p.Last ≤ now ∧ (p.ID = 1 ∧ p.Policy = 0 ∧ p.Start = 864000) ∧ (0 ≤ i ∧ i ≤ 10) ∧ (864000 ≤ now ∧ now ≤ 864000 + 700 * i) ∧ m = (10 - i).toNat) (m := 10) (by omega)
    ⟨864000, 0, d2, _, rfl, h2, new_inv (by omega) hb (by omega) (by omega) (by omega), .new, Int.le_refl _, ⟨rfl, rfl, rfl⟩, by omega, by omega, rfl⟩ ?_
  rintro m x ⟨now, i, d, p, rfl, i1, i2, i3, i4, i5, i6, i7, rfl⟩ K hK
  dsimp only
  refine Ok.ite (fun hi => ?_) (fun hi => Ok.oe sane29 (Ok.s rfl))
  refine Ok.opt (one_ok hL i1 (by simp) (by simp)) fun ⟨a16, d17⟩ ⟨h17, m17⟩ => ?_
  dsimp only at h17 m17 ⊢
  simp only [List.mem_cons, List.not_mem_nil, or_false] at m17
  obtain ⟨u, hu⟩ : ∃ u, now + a16 = u := ⟨_, rfl⟩
  rw [wrap_id (x := now + a16) (by omega), hu]
  obtain ⟨q, r1, r2, r3, r4, r5, r6⟩ := runV_pairL (now := u) hb QP.step i2 i3 (by omega)
  have hqi : q.ID = 1 ∧ q.Policy = 0 ∧ q.Start = 864000 := ⟨r4.id.trans i5.1, r4.pol.trans i5.2.1, r4.start.trans i5.2.2⟩
  refine Ok.join (fun y => y = ((u, i, ()), d17, c, b, q, ())) (fun y hy => ?_) (fun J hJ => ?_)
  · subst hy
    dsimp only
    refine Ok.join (fun y => ∃ (d : D.Dice) (p : D.Page), y = ((u, i, ()), d, c, b, p, ()) ∧ DiceOK t d ∧ PageInv (QP c b) 1000000 b p ∧ PgX (i + 1) p ∧ p.Last ≤ u ∧ (p.ID = 1 ∧ p.Policy = 0 ∧ p.Start = 864000)) (fun y hy => ?_) (fun J hJ => ?_)
    · obtain ⟨d, p, rfl, j1, j2, j3, j4, j5⟩ := hy
      dsimp only
      obtain ⟨tt, gg, _⟩ := j2.goes
      have hsc := gg.scan
      rw [j5.2.2] at hsc
      have hq : PolOK b.Teams.length (polOf b p) := j2.polOK hb
      have hcn := countV_is hq
      have hql := hq.len
      have hpl0 : nth b.Policies (0 : Int).toNat = polOf b p := by unfold polOf; rw [j5.2.1]
      have hplen := j2.plen hb
      have hst := hplen.st
      refine Ok.loop (fun m x => ∃ j : Nat, x = ((u, i, kN p.Starts j, tN 864000 p.Starts j, p.Starts, ((p.Starts.length : Nat) : Int), (j : Int), ()), d, c, b, p, ()) ∧ j ≤ p.Starts.length ∧ m = p.Starts.length - j) (m := p.Starts.length) (by omega) ⟨0, rfl, by omega, rfl⟩ ?_
      rintro m x ⟨j, rfl, jl, rfl⟩ K2 hK2
      dsimp only
      have hkb : 0 ≤ kN p.Starts j ∧ kN p.Starts j ≤ 300 := by
        unfold kN
        have h1 := List.length_filter_le (fun s : D.Start => decide (0 ≤ s.K)) (p.Starts.take j)
        have h2 := List.length_take_le j p.Starts
        omega
      refine Ok.ite (fun hj => ?_) (fun hj => ?_)
      · have hlt : j < p.Starts.length := by omega
        refine Ok.j (Ok.atn hlt ?_)
        obtain ⟨s1, s2, s3, _⟩ := hsc.2.2 j hlt
        have hks := kN_succ (l := p.Starts) hlt
        have hts := tN_succ (st := 864000) (l := p.Starts) (i := j)
        have hpe := (hplen.pe _ (nth_mem hlt)).1
        obtain ⟨s, hs⟩ : ∃ s, nth p.Starts j = s := ⟨_, rfl⟩
        rw [hs] at s1 s2 s3 hks hts hpe ⊢
        refine Ok.join (fun y => y = ((u, i, kN p.Starts j, p.Starts, ((p.Starts.length : Nat) : Int), (j : Int), ()), d, c, b, p, s, ())) (fun y hy => ?_) (fun J3 hJ3 => ?_)
        · subst hy
          dsimp only
          refine Ok.ite (fun hneg => ?_) (fun hneg => ?_)
          · rw [wrap_succ (by omega)]
            refine hK2 _ _ (by omega) ⟨j + 1, ?_, by omega, rfl⟩
            rw [hks, hts, if_neg (by omega), Int.add_zero]
          · rcases s3 with ⟨e, _⟩ | ⟨e1, e2, e3⟩
            · omega
            have hQc : s.K < countV (polOf b p) := e3.1
            have hQp : s.People = callV c b (nth (polOf b p).Steps (s.K % ((polOf b p).Steps.length : Int)).toNat) s.At := e3.2
            have hm := mod_in (q := polOf b p) (i := s.K) hql.1
            have hstep := hq.step _ (step_in hq e2)
            obtain ⟨st, hst'⟩ : ∃ st, nth (polOf b p).Steps (s.K % ((polOf b p).Steps.length : Int)).toNat = st := ⟨_, rfl⟩
            rw [hst'] at hstep hQp
            have htl := hstep.len
            refine Ok.at (by omega) (by omega) ?_
            rw [hpl0]
            refine Ok.oe (part25_is hq) ?_
            unfold partV
            rw [if_pos ⟨e2, hQc⟩]
            dsimp only
            refine Ok.f (Ok.at (by omega) (by omega) ?_)
            rw [hpl0]
            refine Ok.at hm.1 hm.2 ?_
            rw [hst']
            refine Ok.oe (peopleR_ok hc (by omega) hb hstep.target (by omega)) ?_
            have hplen4 := peopleV_len (c := c) (b := b) (l := st.Targets) (t := s.At)
            obtain ⟨mt, hmt⟩ : ∃ mt, peopleV c b st.Targets s.At = mt := ⟨_, rfl⟩
            rw [hmt] at hplen4 ⊢
            refine Ok.run2 mt.length (fun z => (u, i, IntKind.wrap .i64 (kN p.Starts j + 1), s.At, s.K % ((polOf b p).Steps.length : Int), mt, p.Starts, ((p.Starts.length : Nat) : Int), (j : Int), mt, ((mt.length : Nat) : Int), (z : Int), ())) rfl (by omega) (fun z hz k hk => ?_) (fun k => ?_)
            · dsimp only
              refine Ok.p (by omega) (Ok.atn hz (Ok.at (by omega) (by omega) ?_))
              rw [hpl0]
              refine Ok.at hm.1 hm.2 ?_
              rw [hst']
              refine Ok.oe (reachR_is hc (by omega)) (Ok.oe (has25_is (by omega)) (Ok.n ?_ ?_))
              · rw [hQp, call_has (by rw [hmt]; exact nth_mem hz)]; simp
              · rw [wrap_succ (by omega)]; exact hk
            · dsimp only
              refine Ok.n (by omega) ?_
              refine Ok.run2 s.People.length (fun z => (u, i, IntKind.wrap .i64 (kN p.Starts j + 1), s.At, mt, p.Starts, ((p.Starts.length : Nat) : Int), (j : Int), s.People, ((s.People.length : Nat) : Int), (z : Int), ())) rfl (by omega) (fun z hz k hk => ?_) (fun k => ?_)
              · dsimp only
                have hin : mt.contains (nth s.People z) = true := by
                  rw [← hmt]
                  exact call_in (hQp ▸ nth_mem hz)
                refine Ok.p (by omega) (Ok.atn hz (Ok.oe (has25_is (by omega)) (Ok.nt hin ?_)))
                rw [wrap_succ (by omega)]; exact hk
              · dsimp only
                refine Ok.n (by omega) ?_
                rw [wrap_id (x := kN p.Starts j + 1) (by omega), wrap_succ (by omega)]
                refine hK2 _ _ (by omega) ⟨j + 1, ?_, by omega, rfl⟩
                rw [hks, hts, if_pos (by omega)]
        · refine Ok.n (by omega) (Ok.ite (fun g => Ok.n ?_ (hJ3 _ rfl)) (fun g => hJ3 _ rfl))
          rcases s3 with ⟨e, _⟩ | ⟨e1, e2, e3⟩
          · omega
          · omega
      · obtain rfl : j = p.Starts.length := by omega
        rw [hsc.1]
        refine Ok.n (by simp) ?_
        rw [wrap_id (x := i + 1) (by omega)]
        exact hK _ _ (by omega) ⟨u, i + 1, d, p, rfl, j1, j2, j3, j4, j5, by omega, by omega, rfl⟩
    · rw [wrap_id (x := i + 1) (by omega)]
      refine Ok.opt (answer_ok hL h17) fun ⟨a, d117⟩ ⟨h117, ha, e1, e2, e3⟩ => ?_
      dsimp only at h117 ha e1 e2 e3 ⊢
      have hv : validV a = true := ha.valid (by omega) (by omega) (by omega)
      refine Ok.oe (answer_is hb (r2.plen hb) (by have := r5.dlen r2.declined; omega)) ?_
      rcases answerV_pair (a := a) (k := i + 1) hb r2 (r5.mono (by omega)) hv (by omega) (by omega) (fun e => (ha.arg3 e).2) ha.pers.2 (by omega) (by omega) with hne | ⟨q', e, g1, g2, g3, g4, g5, g6, _⟩
      · rcases hav : answerV b q a with ⟨q', er⟩
        rw [hav] at hne
        exact Ok.n hne (hJ _ ⟨_, _, rfl, h117, r2, r5.mono (by omega), r6, hqi⟩)
      · rw [e]
        dsimp only
        exact Ok.p rfl (hJ _ ⟨_, _, rfl, h117, g1, g2, by omega, by omega, by omega, by omega⟩)
  · refine Ok.oe (run_is hc (by omega) hb (i2.plen hb)) ?_
    rw [r1]
    dsimp only
    exact Ok.n (by simp) (Ok.oe (check29_is hb (r2.plen hb)) (Ok.bt (r2.check hb) (hJ _ rfl)))
end Go.Proofs.YtfhcigjkfelnfaaGreat
