/-
  Pages on their way: what the reference's checks, steps, runs and answers compute.
-/
import Derived.Test.YtfhcigjkfelnfaaGreatQRowEscalateEndsF
import Derived.Test.YtfhcigjkfelnfaaGreatQRowEscalateEndsE
set_option maxRecDepth 100000
set_option linter.unusedVariables false
set_option linter.unusedSimpArgs false
namespace Go.Proofs.YtfhcigjkfelnfaaGreat
open Go AM
attribute [local irreducible] dueV stepV runV checkV
section
variable {n : Nat} {c : D.Config} {b : D.Book} {p q : D.Page} {now : Int} {a : D.Answer}
theorem rin {fu : Nat} {x lo hi : Int} : r25_In fu x lo hi = some (inV x lo hi) := by
  unfold r25_In inV
  by_cases h1 : lo ≤ x <;> by_cases h2 : x ≤ hi <;> simp [AM.cnd, h1, h2]
theorem badS_t {l : List Int} {i : Nat} : badS l i = true ↔ ¬ (0 ≤ nth l i ∧ nth l i ≤ 31 ∧ (i = 0 ∨ nth l (i - 1) < nth l i)) := by
  unfold badS
  rw [Bool.not_eq_true', Bool.eq_false_iff]
  simp only [ne_eq, Bool.and_eq_true, Bool.or_eq_true, decide_eq_true_eq, and_assoc]
theorem badS_f {l : List Int} {i : Nat} : badS l i = false ↔ (0 ≤ nth l i ∧ nth l i ≤ 31 ∧ (i = 0 ∨ nth l (i - 1) < nth l i)) := by
  rw [← Bool.not_eq_true, badS_t, Decidable.not_not]
theorem set25_is {l : List Int} (hl : l.length < 900) : r25_Set 1000 l 32 = some (setV l) := by
  refine Ok.eq ?_
  unfold r25_Set
  refine Ok.scan l.length (fun i => ((l, 32, (i : Int), ()), ())) (badS l) rfl (by omega) (fun i hi hq _ k => ?_) (fun i hi hq k hk => ?_) (fun hq k => ?_)
  · have hb := badS_t.1 hq
    dsimp only
    rw [setV_bad hi hq]
    refine Ok.p (by omega) (Ok.j (Ok.atn hi (Ok.ite (fun h1 => Ok.s rfl) (fun h1 => Ok.atn hi (Ok.ite (fun h2 => Ok.s rfl) (fun h2 => ?_))))))
    have h0 : 0 < i := by omega
    refine Ok.p (by omega) ?_
    rw [show IntKind.wrap .i64 ((i : Int) - 1) = ((i - 1 : Nat) : Int) by rw [wrap_id (by omega)]; omega]
    exact Ok.atn (by omega) (Ok.atn hi (Ok.p (by omega) (Ok.s rfl)))
  · have hb := badS_f.1 hq
    dsimp only
    refine Ok.p (by omega) (Ok.j (Ok.atn hi (Ok.n (by omega) (Ok.atn hi (Ok.n (by omega) ?_)))))
    dsimp only
    rw [wrap_succ (by omega)]
    by_cases h0 : 0 < i
    · refine Ok.p (by omega) ?_
      rw [show IntKind.wrap .i64 ((i : Int) - 1) = ((i - 1 : Nat) : Int) by rw [wrap_id (by omega)]; omega]
      exact Ok.atn (by omega) (Ok.atn hi (Ok.n (by omega) hk))
    · exact Ok.n (by omega) hk
  · exact Ok.n (by omega) (Ok.s (setV_good hq).symm)
theorem starts29_is (h : PageLen p) : r29_starts 1000 p = some (startsV p) := by
  have hst := h.st
  have hnx := h.nx
  refine Ok.eq ?_
  unfold r29_starts startsV
  refine Ok.loop (fun m x => ∃ (i : Nat) (k t : Int), x = ((k, t, (i : Int), ()), p, ()) ∧ i ≤ p.Starts.length ∧ -1 ≤ k ∧ k ≤ 1000000 ∧ startsF p.Next k t (p.Starts.drop i) = startsF p.Next (-1) p.Start p.Starts ∧ m = p.Starts.length - i) (m := p.Starts.length) (by omega)
    ⟨0, -1, p.Start, rfl, by omega, by omega, by omega, rfl, rfl⟩ ?_
  rintro m x ⟨i, k, t, rfl, h1, h2, h2', h3, rfl⟩ K hK
  dsimp only
  refine Ok.ite (fun hi => ?_) (fun hi => ?_)
  · have hlt : i < p.Starts.length := by omega
    have hs := h.pe _ (nth_mem hlt)
    refine Ok.j (Ok.atn hlt ?_)
    obtain ⟨s, hse⟩ : ∃ s, nth p.Starts i = s := ⟨_, rfl⟩
    rw [drop_nth' hlt, startsF, hse] at h3
    rw [hse] at hs ⊢
    refine Ok.join (fun y => y = ((k, (i : Int), ()), p, s, ()) ∧ t ≤ s.At ∧ (s.K = -1 ∨ 0 ≤ s.K ∧ k < s.K ∧ s.K < p.Next) ∧ setV s.People = true) (fun y hy => ?_) (fun J hJ => ?_)
    · obtain ⟨rfl, c1, c2, c3⟩ := hy
      have hC : (decide (t ≤ s.At) && (decide (s.K = -1) || decide (0 ≤ s.K) && decide (k < s.K) && decide (s.K < p.Next)) && setV s.People) = true := by
        rw [c3]; simp; omega
      rw [hC, Bool.true_and] at h3
      dsimp only
      rw [wrap_succ (by omega)]
      refine Ok.ite (fun g => ?_) (fun g => ?_)
      · rw [show max k s.K = s.K by omega] at h3
        exact hK _ _ (by omega) ⟨i + 1, s.K, s.At, rfl, by omega, by omega, by omega, h3, rfl⟩
      · rw [show max k s.K = k by omega] at h3
        exact hK _ _ (by omega) ⟨i + 1, k, s.At, rfl, by omega, by omega, by omega, h3, rfl⟩
    · refine Ok.ite (fun g1 => Ok.s ?_) (fun g1 => Ok.ite (fun g2 => Ok.s ?_) (fun g2 => Ok.ite (fun g3 => Ok.ite (fun g4 => Ok.s ?_) (fun g4 => Ok.ite (fun g5 => Ok.s ?_) (fun g5 => Ok.oe (set25_is (by omega)) (Ok.cnd (fun g6 => hJ _ ⟨rfl, by omega, by omega, g6⟩) (fun g6 => Ok.s ?_))))) (fun g3 => Ok.oe (set25_is (by omega)) (Ok.cnd (fun g6 => hJ _ ⟨rfl, by omega, by omega, g6⟩) (fun g6 => Ok.s ?_)))))
      · rw [← h3, decide_eq_false (show ¬ t ≤ s.At by omega)]; rfl
      · rw [← h3, decide_eq_false (show ¬ s.K = -1 by omega), decide_eq_false (show ¬ 0 ≤ s.K by omega)]; simp
      · rw [← h3, decide_eq_false (show ¬ s.K = -1 by omega), decide_eq_false (show ¬ k < s.K by omega)]; simp
      · rw [← h3, decide_eq_false (show ¬ s.K = -1 by omega), decide_eq_false (show ¬ s.K < p.Next by omega)]; simp
      · rw [← h3, g6]; simp
      · rw [← h3, g6]; simp
  · have e : i = p.Starts.length := by omega
    refine Ok.s ?_
    subst e
    rw [List.drop_length, startsF] at h3
    rw [← h3, Bool.true_and]
    exact decide_eq_decide.2 (by omega)
theorem count25_is {m : Nat} {q : D.Policy} (h : PolOK m q) : r25_Count 1000 q = some (countV q) := by
  have h1 := h.rep
  have h2 := h.len
  refine Ok.eq ?_
  unfold r25_Count
  refine Ok.j (Ok.oe rin (Ok.bt (inV_is.2 (by omega)) (Ok.n (by omega) (Ok.s ?_))))
  rw [(countV_is h).1, wrap_id (x := q.Repeat + 1) (by omega), wrap_id]
  have h3 : q.Repeat = 0 ∨ q.Repeat = 1 ∨ q.Repeat = 2 := by omega
  rcases h3 with h3 | h3 | h3 <;> rw [h3] <;> omega
theorem waits25_is {m : Nat} {q : D.Policy} (h : PolOK m q) : r25_Waits 1000 q = some true := by
  have h2 := h.len
  refine Ok.eq ?_
  unfold r25_Waits
  refine Ok.run2 q.Steps.length (fun i => ((i : Int), ())) rfl (by omega) (fun i hi k hk => ?_) (fun k => Ok.n (by omega) (Ok.s rfl))
  dsimp only
  have hw := (h.step _ (nth_mem hi)).wait
  refine Ok.p (by omega) (Ok.atn hi (Ok.oe rin (Ok.nt (inV_is.2 (by omega)) ?_)))
  rw [wrap_succ (by omega)]
  exact hk
theorem part25_is {m : Nat} {q : D.Policy} {i : Int} (h : PolOK m q) : r25_Part 1000 q i = some (partV q i) := by
  have h2 := h.len
  have hc := countV_is h
  refine Ok.eq ?_
  unfold r25_Part partV
  refine Ok.j (Ok.ite (fun g1 => Ok.s ?_) (fun g1 => Ok.oe (count25_is h) (Ok.ite (fun g2 => Ok.s ?_) (fun g2 => Ok.nzc (by omega) (Ok.nzc (by omega) (Ok.s ?_))))))
  · rw [if_neg (by omega)]
  · rw [if_neg (by omega)]
  · have g3 := Int.ediv_le_self (a := i) (q.Steps.length : Int) (by omega)
    have g4 : 0 ≤ i / (q.Steps.length : Int) := Int.ediv_nonneg (by omega) (by omega)
    rw [if_pos (by omega), Int.tmod_eq_emod_of_nonneg (by omega), Int.tdiv_eq_ediv_of_nonneg (by omega), wrap_id (by omega)]
def newV (b : D.Book) (id pol start : Int) : D.Page × Int :=
  if inV id 1 999999 = true ∧ inV start 0 8589934592 = true then (if inV pol 0 ((b.Policies.length : Int) - 1) = true then (newP id pol start, 0) else (page0, 3)) else (page0, 1)
theorem new29_is {id pol start : Int} (hb : BookOK b) : r29_New 1000 b id pol start = some (newV b id pol start) := by
  have hp := hb.plen
  refine Ok.eq ?_
  unfold r29_New newV
  refine Ok.j (Ok.oe rin (Ok.cnd (fun h1 => Ok.oe rin (Ok.cnd (fun h2 => ?_) (fun h2 => Ok.s ?_))) (fun h1 => Ok.s ?_)))
  · dsimp only
    rw [if_pos ⟨h1, h2⟩, wrap_id (by omega)]
    refine Ok.oe rin (Ok.ncnd (fun h3 => Ok.s ?_) (fun h3 => Ok.s ?_))
    · rw [if_neg (by rw [h3]; simp)]; rfl
    · rw [if_pos h3]; rfl
  · rw [if_neg (by rw [h2]; simp)]; rfl
  · rw [if_neg (by rw [h1]; simp)]; rfl
theorem check29_is (hb : BookOK b) (h : PageLen p) : r29_Check 1000 b p = some (checkV b p) := by
  have hde := h.de; have hse := h.se
  have hpl := hb.plen
  refine Ok.eq ?_
  unfold r29_Check
  refine Ok.j (Ok.oe (new29_is hb) ?_)
  unfold newV
  by_cases h1 : inV p.ID 1 999999 = true ∧ inV p.Start 0 8589934592 = true
  · rw [if_pos h1]
    by_cases h2 : inV p.Policy 0 ((b.Policies.length : Int) - 1) = true
    · rw [if_pos h2]
      have h2' := inV_is.1 h2
      have hq : PolOK b.Teams.length (polOf b p) := hb.pol _ (nth_mem (by omega))
      have hw := waits_true hq
      refine Ok.n (by simp) (Ok.at h2'.1 (by omega) ?_)
      show Ok (optc (r25_Waits 1000 (polOf b p)) _) _
      refine Ok.oe (waits25_is hq) (Ok.t (Ok.at h2'.1 (by omega) ?_))
      show Ok (optc (r25_Count 1000 (polOf b p)) _) _
      refine Ok.oe (count25_is hq) (Ok.oe rin (Ok.cnd (fun h4 => ?_) (fun h4 => Ok.s (by simp [checkV, h4]))))
      refine Ok.j (Ok.oe rin (Ok.cnd (fun h5 => ?_) (fun h5 => Ok.s (by simp [checkV, h5]))))
      refine Ok.oe rin (Ok.cnd (fun h6 => ?_) (fun h6 => Ok.s (by simp [checkV, h6])))
      refine Ok.oe rin (Ok.cnd (fun h7 => ?_) (fun h7 => Ok.s (by have h7 : inV p.Last p.Start farV = false := h7; simp [checkV, h7])))
      refine Ok.oe rin (Ok.cnd (fun h8 => ?_) (fun h8 => Ok.s (by have h8 : inV p.Due 0 farV = false := h8; simp [checkV, h8])))
      refine Ok.oe rin (Ok.cnd (fun h9 => ?_) (fun h9 => Ok.s (by have h9 : inV p.Until 0 farV = false := h9; simp [checkV, h9])))
      refine Ok.j (Ok.oe rin (Ok.cnd (fun h10 => ?_) (fun h10 => Ok.s (by simp [checkV, h10]))))
      refine Ok.oe rin (Ok.cnd (fun h11 => ?_) (fun h11 => Ok.s (by simp [checkV, h11])))
      refine Ok.oe (starts29_is h) (Ok.cnd (fun h12 => ?_) (fun h12 => Ok.s (by simp [checkV, h12])))
      refine Ok.oe (set25_is (by omega)) (Ok.cnd (fun h13 => ?_) (fun h13 => Ok.s (by simp [checkV, h13])))
      refine Ok.ite (fun h14 => Ok.s (by simp [checkV, seenV, decide_eq_false (show ¬ p.Seen.length ≤ 64 by omega)])) (fun h14 => ?_)
      have h7' : inV p.Last p.Start farV = true := h7
      have h8' : inV p.Due 0 farV = true := h8
      have h9' : inV p.Until 0 farV = true := h9
      have hcv : checkV b p = seenV p.Seen := by simp [checkV, h1.1, h1.2, h2, hw, h4, h5, h6, h7', h8', h9', h10, h11, h12, h13]
      rw [hcv]
      unfold seenV
      rw [decide_eq_true (show p.Seen.length ≤ 64 by omega), Bool.and_true]
      refine Ok.scan2 p.Seen.length (fun i => ((i : Int), ())) (fun i => (p.Seen.take i).contains (nth p.Seen i)) rfl (by omega) (fun i hi hq _ k => ?_) (fun i hi hq k hk => ?_) (fun hq k => ?_)
      · refine Ok.p (by omega) (Ok.natn (Ok.lec (by omega) (Ok.atn hi (Ok.oe (has25_is (by simp; omega)) (Ok.bt hq (Ok.s ?_))))))
        rw [seen_bad hi hq]
      · refine Ok.p (by omega) (Ok.natn (Ok.lec (by omega) (Ok.atn hi (Ok.oe (has25_is (by simp; omega)) (Ok.bf hq ?_)))))
        rw [wrap_succ (by omega)]; exact hk
      · exact Ok.n (by omega) (Ok.s (decide_eq_true (seen_good hq)).symm)
    · rw [if_neg h2]
      exact Ok.p (by simp) (Ok.s (by simp [checkV, h2]))
  · rw [if_neg h1]
    refine Ok.p (by simp) (Ok.s ?_)
    have : checkV b p = false := by
      rw [Bool.eq_false_iff]
      intro hc
      have hf := checkV_facts hc
      exact h1 ⟨inV_is.2 hf.id, inV_is.2 hf.start⟩
    rw [this]
theorem due29_is : r29_Due 1000 p = some (dueV p) := due_is
theorem closedE_is : escalate_Closed 1000 p = some (closedV p) := by
  unfold escalate_Closed closedV
  by_cases h3 : p.State = 3 <;> by_cases h4 : p.State = 4 <;> simp [AM.cnd, h3, h4]
theorem called29_is (h : PageLen p) : r29_Called 1000 p = some (calledV p) := by
  have h1 := h.st
  refine Ok.eq ?_
  unfold r29_Called calledV
  refine Ok.ite (fun h0 => Ok.s ?_) (fun h0 => ?_)
  · rw [if_pos (List.eq_nil_iff_length_eq_zero.2 (by omega))]
  · have hne : p.Starts ≠ [] := fun e => h0 (by rw [e]; rfl)
    have hpos := List.length_pos_iff.2 hne
    rw [show IntKind.wrap .i64 (((p.Starts.length : Nat) : Int) - 1) = ((p.Starts.length - 1 : Nat) : Int) by rw [wrap_id (by omega)]; omega]
    have hp := (h.pe _ (nth_mem (l := p.Starts) (i := p.Starts.length - 1) (by omega))).1
    refine Ok.atn (by omega) (Ok.lec (by omega) (Ok.s ?_))
    rw [if_neg hne]
theorem copy29_is (h : PageLen p) : r29_Copy 1000 p = some p := by
  have h1 := h.st; have h2 := h.de; have h3 := h.se
  refine Ok.eq ?_
  unfold r29_Copy
  refine Ok.run p.Starts.length (fun i => (((i : Int), ()), p, page0, p.Starts.take i, ())) rfl (by omega) (fun i hi k hk => ?_) (fun k => ?_)
  · dsimp only
    have hp := (h.pe _ (nth_mem hi)).1
    refine Ok.p (by omega) (Ok.atn hi (Ok.lec (by omega) (Ok.lec (by simp; omega) ?_)))
    rw [wrap_succ (by omega), take_snoc' hi]
    exact hk
  · dsimp only
    rw [List.take_length]
    exact Ok.n (by omega) (Ok.lec (by omega) (Ok.lec (by omega) (Ok.s rfl)))
theorem filter_snoc {l : List Int} {f : Int → Bool} {i : Nat} (hi : i < l.length) : (l.take (i + 1)).filter f = (l.take i).filter f ++ (if f (nth l i) = true then [nth l i] else []) := by
  rw [← take_snoc' hi, List.filter_append]
  congr 1
  by_cases h : f (nth l i) = true
  · simp [h]
  · simp [h]
theorem step29_is (h : CfgOK n c) (hn : n ≤ 48) (hb : BookOK b) (hp : PageLen p) : r29_Step 1000 c b p = some (stepV c b p) := by
  refine Ok.eq ?_
  unfold r29_Step
  have hst := hp.st
  refine Ok.oe (check29_is hb hp) (Ok.ncnd (fun hc => Ok.s ?_) (fun hc => ?_))
  · unfold stepV; rw [if_pos hc]; rfl
  have hf := checkV_facts hc
  refine Ok.oe due29_is (Ok.ncnd (fun hd => Ok.s ?_) (fun hd => ?_))
  · unfold stepV; rw [if_neg (by rw [hc]; simp), if_pos hd]; rfl
  have hst2 := hf.starts
  refine Ok.ite (fun hl => Ok.s ?_) (fun hl => ?_)
  · unfold stepV; rw [if_neg (by rw [hc]; simp), if_neg (by rw [hd]; simp), if_pos (by omega)]; rfl
  have hV : stepV c b p = (stepQ c b p, 0) := by unfold stepV; rw [if_neg (by rw [hc]; simp), if_neg (by rw [hd]; simp), if_neg (by omega)]
  rw [hV]
  have hs := due_state hd
  have hpol := hf.pol; have hnx := hf.next; have hl2 := hf.last; have hdu := hf.due
  refine Ok.oe (copy29_is hp) (Ok.ite (fun h2 => Ok.s ?_) (fun h2 => ?_))
  · unfold stepQ
    rw [if_pos h2, dueV_fst2 h2]
  · have h0 : p.State = 0 := by omega
    have hq := hf.polOK hb
    have hcn := countV_is hq
    have hql := hq.len
    refine Ok.at hpol.1 hpol.2 ?_
    show Ok (optc (r25_Part 1000 (polOf b p) p.Next) _) _
    refine Ok.oe (part25_is hq) ?_
    unfold partV
    rw [dueV_fst0 h0]
    by_cases he : p.Next < countV (polOf b p)
    · rw [if_pos ⟨hnx.1, he⟩]
      dsimp only
      have hm := mod_in (q := polOf b p) (i := p.Next) hql.1
      refine Ok.f (Ok.at hm.1 hm.2 ?_)
      have hstp := hq.step _ (step_in hq hnx.1)
      have hw : 0 ≤ (stepAt b p).Wait ∧ (stepAt b p).Wait ≤ 900 := hstp.wait
      have hlen : (stepAt b p).Targets.length ≤ 2 := hstp.len
      show Ok (optc (r25_People 1000 c b (stepAt b p).Targets p.Due) _) _
      refine Ok.oe (peopleR_ok h hn hb hstp.target (by omega)) ?_
      have hpl := peopleV_len (c := c) (b := b) (l := (stepAt b p).Targets) (t := p.Due)
      obtain ⟨l, hl3⟩ : ∃ l, peopleV c b (stepAt b p).Targets p.Due = l := ⟨_, rfl⟩
      rw [hl3] at hpl ⊢
      have hcall : callV c b (stepAt b p) p.Due = l.filter fun z => reachV c z p.Due (stepAt b p).Urgent := by unfold callV; rw [hl3]
      refine Ok.run l.length (fun i => ((p.Due, p.Next % ((polOf b p).Steps.length : Int), l, (i : Int), ()), c, p, page0, (p.ID, p.Policy, p.Start, p.Next, p.Due, p.State, p.By, p.Until, max p.Due p.Last, p.Snoozes, p.Hands, ()), polOf b p, (p.Next, p.Due, ()), p.Starts, p.Declined, p.Seen, (l.take i).filter (fun z => reachV c z p.Due (stepAt b p).Urgent), ())) rfl (by omega) (fun i hi k hk => ?_) (fun k => ?_)
      · dsimp only
        have hfl := List.length_filter_le (fun z => reachV c z p.Due (stepAt b p).Urgent) (l.take i)
        have htl := List.length_take_le i l
        refine Ok.p (by omega) (Ok.j (Ok.atn hi (Ok.at hm.1 hm.2 (Ok.oe (reachR_is h hn) ?_))))
        show Ok (AM.cnd (reachV c (nth l i) p.Due (stepAt b p).Urgent) _ _) _
        rw [filter_snoc hi] at hk
        refine Ok.cnd (fun g => Ok.atn hi (Ok.lec (by simp; omega) ?_)) (fun g => ?_)
        · dsimp only
          rw [if_pos g] at hk
          rw [wrap_succ (by omega)]
          exact hk
        · dsimp only
          rw [if_neg (by rw [g]; simp), List.append_nil] at hk
          rw [wrap_succ (by omega)]
          exact hk
      · dsimp only
        rw [List.take_length, ← hcall]
        unfold stepQ
        rw [if_neg h2, if_neg (by omega)]
        refine Ok.n (by omega) (Ok.lec (by simp; omega) (Ok.j (Ok.ite (fun g => Ok.at hm.1 hm.2 (Ok.s ?_)) (fun g => Ok.s ?_))))
        · have hne : callV c b (stepAt b p) p.Due ≠ [] := fun e => by rw [e] at g; simp at g
          unfold farV at hdu
          show _ = _
          rw [if_neg hne, wrap_id (by omega)]
          have : IntKind.wrap .i64 (p.Due + (stepAt b p).Wait) = p.Due + (stepAt b p).Wait := wrap_id (by omega)
          unfold stepAt at this
          rw [this]
          rfl
        · have he' : callV c b (stepAt b p) p.Due = [] := List.eq_nil_iff_length_eq_zero.2 (by omega)
          show _ = _
          rw [if_pos he', wrap_id (by omega)]
    · rw [if_neg (by omega)]
      dsimp only
      refine Ok.t (Ok.s ?_)
      unfold stepQ
      rw [if_neg h2, if_pos (by omega)]
theorem run29_is (h : CfgOK n c) (hn : n ≤ 48) (hb : BookOK b) (hp : PageLen p) : r29_Run 1000 c b p now = some (runV c b p now) := by
  refine Ok.eq ?_
  unfold r29_Run
  refine Ok.oe (check29_is hb hp) (Ok.ncnd (fun hc => Ok.s ?_) (fun hc => ?_))
  · unfold runV; rw [if_pos hc]; rfl
  rw [runV_is hc]
  have hf := checkV_facts hc
  have hcn := countV_is (hf.polOK hb)
  have hnx := hf.next
  have hle : leftV b p ≤ 11 := by
    unfold leftV
    split
    · omega
    · split <;> omega
  refine Ok.oe (copy29_is hp) ?_
  refine Ok.loop (fun m x => ∃ (q : D.Page) (k : Nat), x = ((now, ()), c, b, q, page0, ()) ∧ PageLen q ∧ leftV b q + 1 ≤ k ∧ runN c b now k q = runN c b now 100 p ∧ m = leftV b q) (m := leftV b p) (by omega) ⟨p, 100, rfl, hp, by omega, rfl, rfl⟩ ?_
  rintro m x ⟨q, k, rfl, hq, hk, he, rfl⟩ K hK
  dsimp only
  obtain ⟨k, rfl⟩ : ∃ k', k = k' + 1 := ⟨k - 1, by omega⟩
  rw [runN] at he
  refine Ok.oe due29_is ?_
  have hwv : waitB q now = ((dueV q).2 && decide ((dueV q).1 ≤ now)) := rfl
  refine Ok.join (fun y => y = ((now, ()), c, b, q, page0, ()) ∧ waitB q now = true) (fun y hy => ?_) (fun J hJ => ?_)
  · obtain ⟨rfl, hw⟩ := hy
    dsimp only
    rw [if_pos hw] at he
    refine Ok.oe (step29_is h hn hb hq) (Ok.ite (fun h1 => Ok.s ?_) (fun h1 => ?_))
    · rw [if_pos h1] at he; exact he
    · rw [if_neg h1] at he
      have hd := waitB_due hw
      have hst : stepV c b q = (stepQ c b q, 0) := by
        revert h1
        unfold stepV
        split
        · simp
        · split
          · simp
          · split
            · simp
            · intro _; rfl
      have hl := step_left (c := c) (b := b) hd.1
      rw [hst] at he ⊢
      refine hK (leftV b (stepQ c b q)) _ hl ⟨stepQ c b q, k, rfl, ?_, by omega, he, rfl⟩
      have := hq.stepV (c := c) hb
      rw [hst] at this; exact this
  · refine Ok.cnd (fun h1 => Ok.ite (fun h2 => Ok.s ?_) (fun h2 => hJ _ ⟨rfl, by rw [hwv, h1]; simp; omega⟩)) (fun h1 => Ok.s ?_)
    · rw [if_neg (by rw [hwv, h1]; simp; omega)] at he; exact he
    · rw [if_neg (by rw [hwv, h1]; simp)] at he; exact he
end
end Go.Proofs.YtfhcigjkfelnfaaGreat
/-
  Pages on their way: what the program's answers compute.
-/
set_option maxRecDepth 100000
set_option linter.unusedVariables false
set_option linter.unusedSimpArgs false
namespace Go.Proofs.YtfhcigjkfelnfaaGreat
open Go AM
section
variable {n : Nat} {c : D.Config} {b : D.Book} {p q : D.Page} {now : Int} {a : D.Answer}
theorem called_len (h : PageLen p) : (calledV p).length ≤ 40 := by
  unfold calledV
  split
  · simp
  · rename_i hne
    have hpos := List.length_pos_iff.2 hne
    exact (h.pe _ (nth_mem (by omega))).1
end
end Go.Proofs.YtfhcigjkfelnfaaGreat
/-
  Pages on their way: what the reference's answers compute; pages compared.
-/
set_option maxRecDepth 100000
set_option linter.unusedVariables false
set_option linter.unusedSimpArgs false
namespace Go.Proofs.YtfhcigjkfelnfaaGreat
open Go AM
section
variable {n : Nat} {c : D.Config} {b : D.Book} {p q : D.Page} {now : Int} {a : D.Answer}
theorem valid28_is : r28_Valid 1000 a = some (validV a) := by
  refine Ok.eq ?_
  unfold r28_Valid
  refine Ok.j (Ok.oe rin (Ok.cnd (fun h1 => Ok.oe rin (Ok.cnd (fun h2 => Ok.oe rin (Ok.cnd (fun h3 => Ok.oe rin (Ok.cnd (fun h4 => ?_) (fun h4 => Ok.s ?_))) (fun h3 => Ok.s ?_))) (fun h2 => Ok.s ?_))) (fun h1 => Ok.s ?_)))
  · dsimp only
    refine Ok.join (fun y => y.1.1 = a.Kind ∧ y.1.2.1 = decide (a.Kind = 1 ∨ a.Kind = 2 ∨ a.Kind = 5) ∧ y.2 = (a, ())) (fun y hy => ?_) (fun J hJ => ?_)
    · obtain ⟨⟨k, z, ⟨⟩⟩, r⟩ := y
      obtain ⟨e1, e2, e3⟩ := hy
      dsimp only at e1 e2 e3
      subst e3; subst e1
      dsimp only
      refine Ok.cnd (fun g => Ok.s ?_) (fun g => Ok.ite (fun k3 => Ok.oe rin (Ok.s ?_)) (fun k3 => Ok.ite (fun k4 => Ok.oe rin (Ok.s ?_)) (fun k4 => Ok.s ?_)))
      · rw [e2] at g
        have g := of_decide_eq_true g
        have hk : inV a.Kind 1 5 = true := inV_is.2 (by omega)
        unfold validV
        rw [if_neg (by omega), if_neg (by omega), h1, h2, h3, h4, hk]; rfl
      · have hk : inV a.Kind 1 5 = true := inV_is.2 (by omega)
        unfold validV
        rw [if_pos k3, h1, h2, h3, h4, hk]; rfl
      · have hk : inV a.Kind 1 5 = true := inV_is.2 (by omega)
        unfold validV
        rw [if_neg k3, if_pos k4, h1, h2, h3, h4, hk]; rfl
      · rw [e2] at g
        have g := of_decide_eq_false g
        have hk : inV a.Kind 1 5 = false := Bool.eq_false_iff.2 fun h => by have := inV_is.1 h; omega
        unfold validV
        rw [hk]; simp
    · refine Ok.ite (fun g1 => hJ _ ⟨rfl, ?_, rfl⟩) (fun g1 => Ok.ite (fun g2 => hJ _ ⟨rfl, ?_, rfl⟩) (fun g2 => hJ _ ⟨rfl, ?_, rfl⟩))
      all_goals exact decide_eq_decide.2 (by omega)
  · unfold validV; rw [h4]; simp
  · unfold validV; rw [h3]; simp
  · unfold validV; rw [h2]; simp
  · unfold validV; rw [h1]; simp
theorem refused29_is (hf : CkF b p) : r29_refused 1000 p a = some (refusedV p a) := by
  have hs1 := hf.seen; have hs2 := hf.snoozes; have hs3 := hf.hands; have hs4 := hf.starts
  refine Ok.eq ?_
  unfold r29_refused
  refine Ok.oe due29_is ?_
  rcases hdv : dueV p with ⟨da, dd⟩
  dsimp only
  refine Ok.j (Ok.ite (fun g1 => Ok.s ?_) (fun g1 => Ok.cnd (fun g2 => Ok.ite (fun g3 => Ok.s ?_) (fun g3 => ?_)) (fun g2 => ?_)))
  · unfold refusedV; rw [if_pos (.inl g1)]
  · unfold refusedV; rw [if_pos (.inr (by unfold waitB; rw [hdv, g2]; simp; omega))]
  all_goals
    have hw : waitB p a.At = false := by
      unfold waitB
      rw [hdv, g2]
      first | rfl | (simp; omega)
    unfold refusedV
    rw [if_neg (by rw [hw]; simp; omega)]
    refine Ok.join (fun y => y.1.1 = decide (p.State = 4 ∨ (p.State = 3 ∧ a.Kind ≠ 5) ∨ (p.State = 1 ∧ a.Kind = 2)) ∧ y.2 = (p, a, ())) (fun y hy => ?_) (fun J hJ => ?_)
    · obtain ⟨⟨s2, ⟨⟩⟩, r⟩ := y
      obtain ⟨k2, k3⟩ := hy
      dsimp only at k2 k3
      subst k3
      dsimp only
      refine Ok.cnd (fun g3 => Ok.s ?_) (fun g3 => ?_)
      · rw [k2] at g3; rw [if_pos (of_decide_eq_true g3)]
      · rw [k2] at g3; rw [if_neg (of_decide_eq_false g3)]
        refine Ok.join (fun y => y.1.1 = decide (p.Seen.length = 64 ∨ (a.Kind = 3 ∧ p.Snoozes = 4) ∨ (a.Kind = 4 ∧ (p.Hands = 4 ∨ p.Starts.length = 200)))) (fun y hy => ?_) (fun J hJ => ?_)
        · obtain ⟨⟨s3, ⟨⟩⟩, ⟨⟩⟩ := y
          dsimp only at hy ⊢
          refine Ok.cnd (fun g4 => Ok.s ?_) (fun g4 => Ok.s ?_)
          · rw [hy] at g4; rw [if_pos (of_decide_eq_true g4)]
          · rw [hy] at g4; rw [if_neg (of_decide_eq_false g4)]
        · refine Ok.ite (fun g4 => hJ _ ?_) (fun g4 => Ok.ite (fun g5 => Ok.ite (fun g6 => hJ _ ?_) (fun g6 => Ok.ite (fun g7 => Ok.ite (fun g8 => hJ _ ?_) (fun g8 => Ok.ite (fun g9 => hJ _ ?_) (fun g9 => hJ _ ?_))) (fun g7 => hJ _ ?_))) (fun g5 => Ok.ite (fun g7 => Ok.ite (fun g8 => hJ _ ?_) (fun g8 => Ok.ite (fun g9 => hJ _ ?_) (fun g9 => hJ _ ?_))) (fun g7 => hJ _ ?_)))
          all_goals (dsimp only; first | exact (decide_eq_true (by omega)).symm | exact (decide_eq_false (by omega)).symm | exact decide_eq_decide.2 (by omega))
    · refine Ok.ite (fun g3 => hJ _ ⟨?_, rfl⟩) (fun g3 => Ok.ite (fun g4 => Ok.ite (fun g5 => hJ _ ⟨?_, rfl⟩) (fun g5 => Ok.ite (fun g6 => Ok.ite (fun g7 => hJ _ ⟨?_, rfl⟩) (fun g7 => hJ _ ⟨?_, rfl⟩)) (fun g6 => hJ _ ⟨?_, rfl⟩))) (fun g4 => Ok.ite (fun g6 => Ok.ite (fun g7 => hJ _ ⟨?_, rfl⟩) (fun g7 => hJ _ ⟨?_, rfl⟩)) (fun g6 => hJ _ ⟨?_, rfl⟩)))
      all_goals (dsimp only; first | exact (decide_eq_true (by omega)).symm | exact (decide_eq_false (by omega)).symm | exact decide_eq_decide.2 (by omega))
theorem with25_plus {l : List Int} {x : Int} (hl : l.length ≤ 400) (h : Asc l) : r25_With 1000 l x = some (plusV l x) := by
  rw [withR hl]
  congr 1
  exact asc_ext (withV_is h).1 (plusV_is h).1 fun z => by rw [(withV_is h).2, (plusV_is h).2]
theorem answer29_is (hb : BookOK b) (h : PageLen p) : r29_Answer 1000 c b p a = some (answerV b p a) := by
  have hse := h.se; have hst := h.st; have hde := h.de
  refine Ok.eq ?_
  unfold r29_Answer
  refine Ok.join (fun y => y = ((), p, a, page0, ()) ∧ checkV b p = true ∧ validV a = true) (fun y hy => ?_) (fun J hJ => ?_)
  · obtain ⟨rfl, hc, hv⟩ := hy
    dsimp only
    unfold answerV
    rw [if_neg (by rw [hc, hv]; simp)]
    have hf := checkV_facts hc
    have hv' := hv
    unfold validV at hv'
    simp only [Bool.and_eq_true, inV_is] at hv'
    obtain ⟨⟨⟨⟨⟨v1, v2⟩, v3⟩, v4⟩, v5⟩, v6⟩ := hv'
    have hsn := hf.snoozes; have hha := hf.hands
    refine Ok.ite (fun g1 => Ok.s ?_) (fun g1 => ?_)
    · rw [if_pos g1]; rfl
    rw [if_neg g1]
    refine Ok.oe (copy29_is h) (Ok.oe (has25_is (by omega)) (Ok.cnd (fun g2 => Ok.s ?_) (fun g2 => ?_)))
    · rw [if_pos g2]
    rw [if_neg (by rw [g2]; simp)]
    refine Ok.oe (refused29_is hf) (Ok.ite (fun g3 => Ok.s ?_) (fun g3 => ?_))
    · rw [if_pos g3]; rfl
    rw [if_neg g3]
    refine Ok.lec (by simp; omega) (Ok.j ?_)
    unfold answerQ
    refine Ok.ite (fun k1 => Ok.ite (fun k2 => Ok.s ?_) (fun k2 => Ok.s ?_)) (fun k1 => Ok.ite (fun k2 => ?_) (fun k2 => Ok.ite (fun k3 => Ok.s ?_) (fun k3 => Ok.ite (fun k4 => Ok.lec (by simp; omega) (Ok.s ?_)) (fun k4 => Ok.ite (fun k5 => Ok.s ?_) (fun k5 => absurd v5 (by omega))))))
    · rw [if_pos k1, if_pos k2]
    · rw [if_pos k1, if_neg k2]
    · rw [if_neg k1, if_pos k2]
      have hcl := called_len h
      refine Ok.oe (called29_is h) ?_
      refine Ok.join (fun y => y = ((calledV p, ()), p, a, page0, (p.ID, p.Policy, p.Start, p.Next, p.Due, p.State, p.By, p.Until, a.At, p.Snoozes, p.Hands, declQ p a, ()), p.Starts, p.Seen ++ [a.ID], ())) (fun y hy => ?_) (fun J hJ => ?_)
      · subst hy
        dsimp only
        have hdl : (declQ p a).length ≤ 900 := by
          unfold declQ plusV
          split
          · have h1 := List.length_filter_le (fun z => decide (z < a.Person)) p.Declined
            have h2 := List.length_filter_le (fun z => decide (a.Person < z)) p.Declined
            simp only [List.length_append, List.length_cons]; omega
          · omega
        obtain ⟨aD, haD⟩ : ∃ aD : Nat → Bool, ∀ i, aD i = (decide ((0 : Int) < (((calledV p).length : Nat) : Int)) && ((calledV p).take i).all fun z => (declQ p a).contains z) := ⟨fun i => _, fun i => rfl⟩
        have hall : ∀ i, i < (calledV p).length → aD (i + 1) = (aD i && (declQ p a).contains (nth (calledV p) i)) := fun i hi => by
          rw [haD, haD, ← take_snoc' hi, List.all_append, Bool.and_assoc]
          simp
        have hlast : allDown p a = aD (calledV p).length := by
          rw [haD, List.take_length]
          unfold allDown
          congr 1
          refine decide_eq_decide.2 ⟨fun hne => by have := List.length_pos_iff.2 hne; omega, fun hpos e => by rw [e] at hpos; simp at hpos⟩
        refine Ok.run2 (calledV p).length (fun i => (calledV p, aD i, (i : Int), ())) (by rw [haD]; simp) (by omega) (fun i hi k hk => ?_) (fun k => ?_)
        · dsimp only at hk ⊢
          rw [hall i hi] at hk
          refine Ok.p (by omega) (Ok.j (Ok.cnd (fun g => Ok.atn hi (Ok.oe (has25_is hdl) (Ok.cnd (fun g' => ?_) (fun g' => ?_)))) (fun g => ?_)))
          · dsimp only
            rw [wrap_succ (by omega)]
            rw [g, g'] at hk; exact hk
          · dsimp only
            rw [wrap_succ (by omega)]
            rw [g, g'] at hk; exact hk
          · dsimp only
            rw [wrap_succ (by omega)]
            rw [g] at hk; exact hk
        · dsimp only
          rw [hlast]
          refine Ok.n (by omega) (Ok.cnd (fun g => Ok.ite (fun g0 => Ok.s ?_) (fun g0 => Ok.s ?_)) (fun g => Ok.s ?_))
          · rw [if_pos ⟨g, g0⟩]
          · rw [if_neg (fun hx => g0 hx.2)]
          · rw [if_neg (by rw [g]; simp)]
      · refine Ok.oe (has25_is (by omega)) (Ok.cnd (fun g4 => ?_) (fun g4 => ?_))
        · have hd := (setV_is.1 hf.declined).1
          refine Ok.oe (with25_plus (by omega) hd) (hJ _ ?_)
          have : declQ p a = plusV p.Declined a.Person := by unfold declQ; rw [if_pos g4]
          rw [this]
        · refine hJ _ ?_
          have : declQ p a = p.Declined := by unfold declQ; rw [if_neg (by rw [g4]; simp)]
          rw [this]
    · rw [if_neg k1, if_neg k2, if_pos k3]
      rw [if_pos k3] at v6
      have v6 := inV_is.1 v6
      rw [wrap_id (by omega), wrap_id (by omega)]
    · rw [if_neg k1, if_neg k2, if_neg k3, if_pos k4, wrap_id (by omega), wrap_id (by omega)]
    · rw [if_neg k1, if_neg k2, if_neg k3, if_neg k4]
  · refine Ok.oe (check29_is hb h) (Ok.cnd (fun g1 => Ok.oe valid28_is (Ok.cnd (fun g2 => hJ _ ⟨rfl, g1, g2⟩) (fun g2 => Ok.s ?_))) (fun g1 => Ok.s ?_))
    · unfold answerV; rw [if_pos (.inr g2)]; rfl
    · unfold answerV; rw [if_pos (.inl g1)]; rfl
theorem sameS_refl {l : List D.Start} (hl : l.length ≤ 900) (h : ∀ s ∈ l, s.People.length ≤ 900) : r29_SameStarts 1000 l l = some true := by
  refine Ok.eq ?_
  unfold r29_SameStarts
  refine Ok.n (by simp) (Ok.run l.length (fun i => ((l, l, (i : Int), ()), ())) rfl (by omega) (fun i hi k hk => ?_) (fun k => Ok.n (by omega) (Ok.s rfl)))
  dsimp only
  have hs := h _ (nth_mem hi)
  refine Ok.p (by omega) (Ok.j (Ok.atn hi (Ok.atn hi (Ok.n (by simp) (Ok.atn hi (Ok.atn hi (Ok.n (by simp) (Ok.atn hi (Ok.atn hi (Ok.oe (same_is hs) ?_))))))))))
  rw [decide_eq_true rfl]
  refine Ok.t ?_
  dsimp only
  rw [wrap_succ (by omega)]
  exact hk
theorem sameP_refl (h : PageLen p) : r29_Same 1000 p p = some true := by
  have h1 := h.st; have h2 := h.de; have h3 := h.se
  unfold r29_Same
  rw [sameS_refl (by omega) (fun s hs => by have := (h.pe s hs).1; omega), same_is (by omega), same_is (by omega)]
  simp only [decide_true, AM.cnd, AM.optc]
end
end Go.Proofs.YtfhcigjkfelnfaaGreat
/-
  What else is kept of made pages: who declined, which answers were seen. Plain Lean.
-/
set_option maxRecDepth 100000
set_option linter.unusedVariables false
set_option linter.unusedSimpArgs false
namespace Go.Proofs.YtfhcigjkfelnfaaGreat
open Go AM
section
variable {n : Nat} {c : D.Config} {b : D.Book} {p q : D.Page} {now k M : Int} {a : D.Answer} {Q : Int → D.Start → Prop}
structure PgX (k : Int) (p : D.Page) : Prop where
  decl : ∀ x ∈ p.Declined, x < 4
  seen : ∀ x ∈ p.Seen, 1 ≤ x ∧ x ≤ k
theorem PgX.mono {k' : Int} (h : PgX k p) (hk : k ≤ k') : PgX k' p := ⟨h.decl, fun x hx => ⟨(h.seen x hx).1, Int.le_trans (h.seen x hx).2 hk⟩⟩
theorem PgX.step (h : PgX k p) : PgX k (stepQ c b p) := by
  unfold stepQ
  split
  · exact ⟨h.decl, h.seen⟩
  · split
    · exact ⟨h.decl, h.seen⟩
    · exact ⟨by simp, h.seen⟩
theorem PgX.run (h : PgX k p) (hb : BookOK b) (hQ : StepQ Q M c b) (hi : PageInv Q M b p) : PgX k (runV c b p now).1 :=
  runV_ind hb hQ (fun q _ _ hr => hr.step) hi h
theorem plusV_mem {l : List Int} {x z : Int} (h : z ∈ plusV l x) : z ∈ l ∨ z = x := by
  unfold plusV at h
  rcases List.mem_append.1 h with h | h
  · exact .inl (List.mem_filter.1 h).1
  · rcases List.mem_cons.1 h with h | h
    · exact .inr h
    · exact .inl (List.mem_filter.1 h).1
theorem PgX.answer (h : PgX k p) (ha : a.Person < 4) (hi : 1 ≤ a.ID ∧ a.ID ≤ k) : PgX k (answerQ p a) := by
  have hs : ∀ x ∈ p.Seen ++ [a.ID], 1 ≤ x ∧ x ≤ k := mem_snoc h.seen hi
  have hd : ∀ x ∈ declQ p a, x < 4 := by
    unfold declQ
    split
    · intro x hx
      rcases plusV_mem hx with hx | rfl
      · exact h.decl x hx
      · exact ha
    · exact h.decl
  unfold answerQ
  split
  · split
    · exact ⟨h.decl, hs⟩
    · exact ⟨h.decl, hs⟩
  · split
    · exact ⟨hd, hs⟩
    · split
      · exact ⟨h.decl, hs⟩
      · split
        · exact ⟨by simp, hs⟩
        · exact ⟨h.decl, hs⟩
theorem PgX.new {id pol start : Int} : PgX k (newP id pol start) := ⟨by simp [newP], by simp [newP]⟩
end
end Go.Proofs.YtfhcigjkfelnfaaGreat
/-
  How the statements begin: light inputs, dice.
-/
set_option linter.unusedVariables false
namespace Go.Proofs.YtfhcigjkfelnfaaGreat
open Go AM
theorem light_is {t : List Int} : made_Light 1000 t = some (decide (((t.length : Nat) : Int) ≤ 500)) := rfl
theorem roll_is {t : List Int} : made_Roll 1000 t = some ⟨t, 0⟩ := rfl
theorem dice0 {t : List Int} : DiceOK t ⟨t, 0⟩ := ⟨rfl, Int.le_refl _, by dsimp only; omega⟩
theorem light_len {t : List Int} (h : decide (((t.length : Nat) : Int) ≤ 500) = true) : t.length ≤ 500 := by have := of_decide_eq_true h; omega
end Go.Proofs.YtfhcigjkfelnfaaGreat
/-
  Pages and answers that are made by dice: what holds of them.
-/
set_option maxRecDepth 100000
set_option linter.unusedVariables false
set_option linter.unusedSimpArgs false
namespace Go.Proofs.YtfhcigjkfelnfaaGreat
open Go AM
attribute [local irreducible] dueV stepV runV checkV answerV
section
variable {n : Nat} {c : D.Config} {b : D.Book} {p q : D.Page} {now k M : Int} {a : D.Answer} {Q : Int → D.Start → Prop} {L : List Int} {d : D.Dice}
structure AnsOK (a : D.Answer) : Prop where
  pers : -1 ≤ a.Person ∧ a.Person < 4
  kind : 1 ≤ a.Kind ∧ a.Kind ≤ 5
  arg3 : a.Kind = 3 → 1 ≤ a.Arg ∧ a.Arg ≤ 5000
  arg4 : a.Kind = 4 → 0 ≤ a.Arg ∧ a.Arg < 4
  arg0 : a.Kind ≠ 3 → a.Kind ≠ 4 → a.Arg = 0
theorem AnsOK.valid (h : AnsOK a) (h1 : 1 ≤ a.ID ∧ a.ID ≤ 999999) (h2 : 1 ≤ a.Page ∧ a.Page ≤ 999999) (h3 : 0 ≤ a.At ∧ a.At ≤ 8589934592) : validV a = true := by
  have hp := h.pers; have hk := h.kind
  unfold validV
  rw [inV_is.2 h1, inV_is.2 h2, inV_is.2 (show -1 ≤ a.Person ∧ a.Person ≤ 31 by omega), inV_is.2 h3, inV_is.2 hk]
  simp only [Bool.true_and]
  split
  · rename_i k3; have := h.arg3 k3; exact inV_is.2 (by omega)
  · split
    · rename_i k4; have := h.arg4 k4; exact inV_is.2 (by omega)
    · rename_i k3 k4; exact decide_eq_true (h.arg0 k3 k4)
theorem answer_ok {id page at_ : Int} (hL : L.length ≤ 500) (hd : DiceOK L d) : Ok (made_Dice_Answer 1000 d id page at_) fun r => DiceOK L r.2 ∧ AnsOK r.1 ∧ r.1.ID = id ∧ r.1.Page = page ∧ r.1.At = at_ := by
  unfold made_Dice_Answer
  refine Ok.opt (nx hL hd (by omega) (by omega)) fun ⟨a0, d1⟩ ⟨h1, l1, u1⟩ => ?_
  dsimp only at h1 l1 u1 ⊢
  refine Ok.opt (nx hL h1 (by omega) (by omega)) fun ⟨a2, d3⟩ ⟨h3, l3, u3⟩ => ?_
  dsimp only at h3 l3 u3 ⊢
  rw [wrap_id (x := 1 + a2) (by omega), wrap_id (x := a0 - 1) (by omega)]
  refine Ok.j (Ok.ite (fun g => ?_) (fun g => Ok.ite (fun g' => ?_) (fun g' => ?_)))
  · refine Ok.opt (one_ok hL h3 (by simp) (by simp)) fun ⟨a8, d9⟩ ⟨h9, m9⟩ => Ok.s ⟨h9, ⟨by dsimp only; omega, by dsimp only; omega, fun _ => ?_, fun e => ?_, fun e => absurd g e⟩, rfl, rfl, rfl⟩
    · dsimp only at m9 ⊢
      simp only [List.mem_cons, List.not_mem_nil, or_false] at m9
      omega
    · dsimp only at e; omega
  · refine Ok.opt (nx hL h3 (by omega) (by omega)) fun ⟨a10, d11⟩ ⟨h11, l11, u11⟩ => Ok.s ⟨h11, ⟨by dsimp only; omega, by dsimp only; omega, fun e => ?_, fun _ => ⟨l11, u11⟩, fun _ e => absurd g' e⟩, rfl, rfl, rfl⟩
    dsimp only at e; omega
  · exact Ok.s ⟨h3, ⟨by dsimp only; omega, by dsimp only; omega, fun e => absurd e g, fun e => absurd e g', fun _ _ => rfl⟩, rfl, rfl, rfl⟩
theorem runV_pair (hb : BookOK b) (hQ : StepQ Q M c b) (h : PageInv Q M b p) (now : Int) : ∃ q, runV c b p now = (q, 0) ∧ PageInv Q M b q ∧ waitB q now = false ∧ Kept p q := by
  have h1 := runV_inv (now := now) hb hQ h
  have h2 := runV_kept (now := now) hb hQ h
  rcases hr : runV c b p now with ⟨q, e⟩
  rw [hr] at h1 h2
  obtain ⟨a1, a2, a3⟩ := h1
  dsimp only at a1 a2 a3 h2
  subst a2
  exact ⟨q, rfl, a1, a3, h2⟩
theorem runV_pairL (hb : BookOK b) (hQ : StepQ Q M c b) (h : PageInv Q M b p) (hx : PgX k p) (hl : p.Last ≤ now) : ∃ q, runV c b p now = (q, 0) ∧ PageInv Q M b q ∧ waitB q now = false ∧ Kept p q ∧ PgX k q ∧ q.Last ≤ now := by
  obtain ⟨q, h1, h2, h3, h4⟩ := runV_pair hb hQ h now
  have h5 := hx.run (now := now) hb hQ h
  have h6 := runV_last (now := now) hb hQ h hl
  rw [h1] at h5 h6
  exact ⟨q, h1, h2, h3, h4, h5, h6⟩
theorem answerV_pair (hb : BookOK b) (h : PageInv Q M b p) (hx : PgX k p) (hv : validV a = true) (hp : a.Page = p.ID) (ha : a.At ≤ M - 20000) (hs : a.Kind = 3 → a.Arg ≤ 5000) (hpe : a.Person < 4) (hk : 1 ≤ a.ID ∧ a.ID ≤ k) (hl : p.Last ≤ a.At) :
    ((answerV b p a).2 ≠ 0) ∨ ∃ q, answerV b p a = (q, 0) ∧ PageInv Q M b q ∧ PgX k q ∧ q.Last ≤ a.At ∧ q.ID = p.ID ∧ q.Policy = p.Policy ∧ q.Start = p.Start ∧ q.Next = p.Next := by
  by_cases hse : p.Seen.contains a.ID = true
  · exact .inr ⟨p, answerV_old (h.check hb) hv hp hse, h, hx, hl, rfl, rfl, rfl, rfl⟩
  · have hse : p.Seen.contains a.ID = false := by simpa using hse
    rw [answerV_new (h.check hb) hv hp hse]
    by_cases hr : refusedV p a = 0
    · rw [if_neg (by simp [hr])]
      exact .inr ⟨_, rfl, h.answerQ_inv hb hv ha hs hse hr, hx.answer hpe hk, answerQ_last hl, answerQ_id⟩
    · rw [if_pos hr]; exact .inl hr
structure MadeP (c : D.Config) (b : D.Book) (p : D.Page) (now : Int) : Prop where
  inv : PageInv (QP c b) 1000000 b p
  x : PgX 9 p
  last : p.Last ≤ now
  id : p.ID ≤ 3
  lo : 864000 ≤ now
  hi : now ≤ 880000
theorem page_ok {k : Int} (hL : L.length ≤ 500) (hd : DiceOK L d) (hc : CfgOK n c) (hn : n ≤ 48) (hb : BookOK b) (hk : 0 ≤ k ∧ k ≤ 6) :
    Ok (made_Dice_Page 1000 d c b k) fun r => DiceOK L r.2.2 ∧ MadeP c b r.1 r.2.1 := by
  have hpl := hb.plen
  unfold made_Dice_Page
  refine Ok.opt (one_ok hL hd (by simp) (by simp)) fun ⟨a0, d1⟩ ⟨h1, m1⟩ => ?_
  dsimp only at h1 m1 ⊢
  simp only [List.mem_cons, List.not_mem_nil, or_false] at m1
  refine Ok.opt (nx hL h1 (by omega) (by omega)) fun ⟨a2, d3⟩ ⟨h3, l3, u3⟩ => ?_
  dsimp only at h3 l3 u3 ⊢
  refine Ok.opt (nx hL h3 (by omega) (by omega)) fun ⟨a4, d5⟩ ⟨h5, l5, u5⟩ => ?_
  dsimp only at h5 l5 u5 ⊢
  rw [wrap_id (x := 1 + a2) (by omega), wrap_id (x := 864000 + a0) (by omega)]
  have hnew : newV b (1 + a2) a4 (864000 + a0) = (newP (1 + a2) a4 (864000 + a0), 0) := by
    unfold newV
    rw [if_pos ⟨inV_is.2 (by omega), inV_is.2 (by omega)⟩, if_pos (inV_is.2 (by omega))]
  refine Ok.oe (new29_is hb) ?_
  rw [hnew]
  dsimp only
  refine Ok.n (by simp) ?_
  rw [wrap_id (x := k + 1) (by omega)]
  refine Ok.opt (nx hL h5 (by omega) (by omega)) fun ⟨a8, d9⟩ ⟨h9, l9, u9⟩ => ?_
  dsimp only at h9 l9 u9 ⊢
  refine Ok.loop (fun m x => ∃ (now i : Int) (d : D.Dice) (p : D.Page), x = ((now, i, ()), d, c, b, page0, p, ()) ∧ DiceOK L d ∧ PageInv (QP c b) 1000000 b p ∧ PgX 9 p ∧ p.Last ≤ now ∧ p.ID ≤ 3 ∧ 864000 ≤ now ∧ now + 2000 * i ≤ 880000 ∧ 0 ≤ i ∧ m = i.toNat) (m := a8.toNat) (by omega)
    ⟨864000 + a0, a8, d9, _, rfl, h9, new_inv (by omega) hb (by omega) (by omega) (by omega), .new, Int.le_refl _, by show 1 + a2 ≤ 3; omega, by omega, by omega, l9, rfl⟩ ?_
  rintro m x ⟨now, i, d, p, rfl, i1, i2, i3, i4, i5, i6, i7, i8, rfl⟩ K hK
  dsimp only
  refine Ok.ite (fun hi => ?_) (fun hi => Ok.s ⟨i1, i2, i3, i4, i5, i6, by dsimp only; omega⟩)
  refine Ok.j (Ok.opt (one_ok hL i1 (by simp) (by simp)) fun ⟨a26, d27⟩ ⟨h27, m27⟩ => ?_)
  dsimp only at h27 m27 ⊢
  simp only [List.mem_cons, List.not_mem_nil, or_false] at m27
  obtain ⟨t, ht⟩ : ∃ t, now + a26 = t := ⟨_, rfl⟩
  rw [wrap_id (x := now + a26) (by omega), ht]
  obtain ⟨q, r1, r2, r3, r4, r5, r6⟩ := runV_pairL (now := t) hb QP.step i2 i3 (by omega)
  refine Ok.join (fun y => ∃ (d : D.Dice) (p : D.Page), y = ((t, i, ()), d, c, b, page0, p, ()) ∧ DiceOK L d ∧ PageInv (QP c b) 1000000 b p ∧ PgX 9 p ∧ p.Last ≤ t ∧ p.ID ≤ 3) (fun y hy => ?_) (fun J hJ => ?_)
  · obtain ⟨d, p, rfl, j1, j2, j3, j4, j5⟩ := hy
    dsimp only
    refine Ok.opt (nx hL j1 (by omega) (by omega)) fun ⟨a35, d36⟩ ⟨h36, l36, u36⟩ => ?_
    dsimp only at h36 l36 u36 ⊢
    rw [wrap_id (x := 1 + a35) (by omega)]
    refine Ok.opt (answer_ok hL h36) fun ⟨a, d38⟩ ⟨h38, ha, e1, e2, e3⟩ => ?_
    dsimp only at h38 ha e1 e2 e3 ⊢
    have hv : validV a = true := ha.valid (by omega) (by have := j2.id; omega) (by omega)
    refine Ok.oe (answer29_is hb (j2.plen hb)) ?_
    have fin : ∀ (d : D.Dice) (p : D.Page), DiceOK L d → PageInv (QP c b) 1000000 b p → PgX 9 p → p.Last ≤ t → p.ID ≤ 3 → Ok (K ((t, IntKind.wrap .i64 (i - 1), ()), d, c, b, page0, p, ())) fun r => DiceOK L r.2.2 ∧ MadeP c b r.1 r.2.1 := fun d p f1 f2 f3 f4 f5 => by
      rw [wrap_id (by omega)]
      exact hK (i - 1).toNat _ (by omega) ⟨t, i - 1, d, p, rfl, f1, f2, f3, f4, f5, by omega, by omega, by omega, rfl⟩
    rcases answerV_pair (a := a) hb j2 j3 hv e2 (by omega) (fun e => (ha.arg3 e).2) ha.pers.2 (by omega) (by omega) with hne | ⟨q', e, g1, g2, g3, g4, _⟩
    · rcases hav : answerV b p a with ⟨q', er⟩
      rw [hav] at hne
      exact Ok.n hne (fin _ _ h38 j2 j3 j4 j5)
    · rw [e]
      dsimp only
      refine Ok.p rfl (Ok.opt (nx hL h38 (by omega) (by omega)) fun ⟨a41, d42⟩ ⟨h42, _⟩ => ?_)
      exact Ok.ite (fun _ => fin _ _ h42 g1 g2 (by omega) (by omega)) (fun _ => fin _ _ h42 j2 j3 j4 j5)
  · refine Ok.oe (run29_is hc hn hb (i2.plen hb)) ?_
    rw [r1]
    dsimp only
    refine Ok.p rfl (Ok.opt (nx hL h27 (by omega) (by omega)) fun ⟨a46, d47⟩ ⟨h47, _⟩ => ?_)
    exact Ok.ite (fun _ => hJ _ ⟨_, _, rfl, h47, r2, r5, r6, by rw [r4.id]; exact i5⟩) (fun _ => hJ _ ⟨_, _, rfl, h47, i2, i3, by omega, i5⟩)
end
end Go.Proofs.YtfhcigjkfelnfaaGreat
/-
  The laws EscalateEnds and EscalateSplits, of what is reckoned of their code.
-/
set_option maxRecDepth 100000
set_option linter.unusedVariables false
set_option linter.unusedSimpArgs false
namespace Go.Proofs.YtfhcigjkfelnfaaGreat
open Go AM
attribute [local irreducible] dueV stepV runV checkV answerV
theorem sane29 : law29_sane 1000 = some true := by kernel_rfl
theorem escalateEnds_true (t : List Int) : law29_EscalateEnds 1000 t = some true := by
  refine Ok.eq ?_
  unfold law29_EscalateEnds
  refine Ok.oe light_is (Ok.ncnd (fun _ => Ok.oe sane29 (Ok.s rfl)) fun hl => Ok.oe roll_is ?_)
  have hL := light_len hl
  refine Ok.opt (crew_ok hL dice0 (by omega)) fun ⟨c, d1⟩ ⟨h1, hc⟩ => ?_
  dsimp only at h1 hc ⊢
  refine Ok.opt (book_ok hL h1 (by omega)) fun ⟨b, d2⟩ ⟨h2, hb⟩ => ?_
  dsimp only at h2 hb ⊢
  refine Ok.opt (page_ok (k := 6) hL h2 hc (by omega) hb (by omega)) fun ⟨p, now, d3⟩ ⟨h3, hp⟩ => ?_
  dsimp only at h3 hp ⊢
  have hlo := hp.lo; have hhi := hp.hi; have hpol := hp.inv.pol
  refine Ok.oe due_is ?_
  refine Ok.join (fun y => y = ((now, (dueV p).2, (dueV p).2, ()), c, b, p, ())) (fun y hy => ?_) (fun J hJ => ?_)
  · subst hy
    dsimp only
    refine Ok.n (by simp) ?_
    rw [wrap_id (by omega)]
    obtain ⟨q, r1, r2, r3, r4⟩ := runV_pair hb QP.step hp.inv (now + 8640000)
    refine Ok.oe (run_is hc (by omega) hb (hp.inv.plen hb)) ?_
    rw [r1]
    dsimp only
    refine Ok.n (by simp) (Ok.ncnd (fun hd => ?_) (fun hd => ?_))
    · have hi : runV c b p (now + 8640000) = (p, 0) := runV_idle (hp.inv.check hb) (by unfold waitB; rw [hd]; rfl)
      rw [hi] at r1
      obtain rfl : p = q := (Prod.mk.inj r1).1
      exact Ok.oe (sameP_refl (hp.inv.plen hb)) (Ok.t (Ok.oe sane29 (Ok.t (Ok.s rfl))))
    · have hs := due_state hd
      have he := runV_end (now := now + 8640000) hb QP.step hp.inv (by omega) hs
      rw [r1] at he
      dsimp only at he
      refine Ok.p he.1 (Ok.oe closedE_is (Ok.bt (by unfold closedV; simp [he.1]) (Ok.at hpol.1 hpol.2 ?_)))
      show Ok (optc (r25_Count 1000 (polOf b p)) _) _
      exact Ok.oe (count25_is (hp.inv.polOK hb)) (Ok.p he.2 (Ok.oe sane29 (Ok.t (Ok.s rfl))))
  · refine Ok.ite (fun g => hJ _ ?_) (fun g => Ok.ite (fun g' => hJ _ ?_) (fun g' => hJ _ ?_))
    · rw [dueV_fst0 g]
    · rw [dueV_fst2 g']
    · rw [dueV_not g g']
end Go.Proofs.YtfhcigjkfelnfaaGreat
