/-
  Pages on their way: what the reference's checks, steps, runs and answers compute.
-/
import Derived.Test.YtfhcigjkfelnfaaGreatQRowEscalateRestsF
import Derived.Test.YtfhcigjkfelnfaaGreatQRowEscalateRestsE
set_option maxRecDepth 100000
set_option linter.unusedVariables false
set_option linter.unusedSimpArgs false
namespace Go.Proofs.YtfhcigjkfelnfaaGreat
open Go AM
attribute [local irreducible] dueV stepV runV checkV
section
variable {n : Nat} {c : D.Config} {b : D.Book} {p q : D.Page} {now : Int} {a : D.Answer}
theorem rin {fu : Nat} {x lo hi : Int} : r25_In fu x lo hi = some (inV x lo hi) := by
  unfold r25_In inV
  by_cases h1 : lo ≤ x <;> by_cases h2 : x ≤ hi <;> simp [AM.cnd, h1, h2]
theorem badS_t {l : List Int} {i : Nat} : badS l i = true ↔ ¬ (0 ≤ nth l i ∧ nth l i ≤ 31 ∧ (i = 0 ∨ nth l (i - 1) < nth l i)) := by
  unfold badS
  rw [Bool.not_eq_true', Bool.eq_false_iff]
  simp only [ne_eq, Bool.and_eq_true, Bool.or_eq_true, decide_eq_true_eq, and_assoc]
theorem badS_f {l : List Int} {i : Nat} : badS l i = false ↔ (0 ≤ nth l i ∧ nth l i ≤ 31 ∧ (i = 0 ∨ nth l (i - 1) < nth l i)) := by
  rw [← Bool.not_eq_true, badS_t, Decidable.not_not]
theorem set25_is {l : List Int} (hl : l.length < 900) : r25_Set 1000 l 32 = some (setV l) := by
  refine Ok.eq ?_
  unfold r25_Set
  refine Ok.scan l.length (fun i => ((l, 32, (i : Int), ()), ())) (badS l) rfl (by omega) (fun i hi hq _ k => ?_) (fun i hi hq k hk => ?_) (fun hq k => ?_)
  · have hb := badS_t.1 hq
    dsimp only
    rw [setV_bad hi hq]
    refine Ok.p (by omega) (Ok.j (Ok.atn hi (Ok.ite (fun h1 => Ok.s rfl) (fun h1 => Ok.atn hi (Ok.ite (fun h2 => Ok.s rfl) (fun h2 => ?_))))))
    have h0 : 0 < i := by omega
    refine Ok.p (by omega) ?_
    rw [show IntKind.wrap .i64 ((i : Int) - 1) = ((i - 1 : Nat) : Int) by rw [wrap_id (by omega)]; omega]
    exact Ok.atn (by omega) (Ok.atn hi (Ok.p (by omega) (Ok.s rfl)))
  · have hb := badS_f.1 hq
    dsimp only
    refine Ok.p (by omega) (Ok.j (Ok.atn hi (Ok.n (by omega) (Ok.atn hi (Ok.n (by omega) ?_)))))
    dsimp only
    rw [wrap_succ (by omega)]
    by_cases h0 : 0 < i
    · refine Ok.p (by omega) ?_
      rw [show IntKind.wrap .i64 ((i : Int) - 1) = ((i - 1 : Nat) : Int) by rw [wrap_id (by omega)]; omega]
      exact Ok.atn (by omega) (Ok.atn hi (Ok.n (by omega) hk))
    · exact Ok.n (by omega) hk
  · exact Ok.n (by omega) (Ok.s (setV_good hq).symm)
theorem starts29_is (h : PageLen p) : r29_starts 1000 p = some (startsV p) := by
  have hst := h.st
  have hnx := h.nx
  refine Ok.eq ?_
  unfold r29_starts startsV
  refine Ok.loop (fun m x => ∃ (i : Nat) (k t : Int), x = ((k, t, (i : Int), ()), p, ()) ∧ i ≤ p.Starts.length ∧ -1 ≤ k ∧ k ≤ 1000000 ∧ startsF p.Next k t (p.Starts.drop i) = startsF p.Next (-1) p.Start p.Starts ∧ m = p.Starts.length - i) (m := p.Starts.length) (by omega)
    ⟨0, -1, p.Start, rfl, by omega, by omega, by omega, rfl, rfl⟩ ?_
  rintro m x ⟨i, k, t, rfl, h1, h2, h2', h3, rfl⟩ K hK
  dsimp only
  refine Ok.ite (fun hi => ?_) (fun hi => ?_)
  · have hlt : i < p.Starts.length := by omega
    have hs := h.pe _ (nth_mem hlt)
    refine Ok.j (Ok.atn hlt ?_)
    obtain ⟨s, hse⟩ : ∃ s, nth p.Starts i = s := ⟨_, rfl⟩
    rw [drop_nth' hlt, startsF, hse] at h3
    rw [hse] at hs ⊢
    refine Ok.join (fun y => y = ((k, (i : Int), ()), p, s, ()) ∧ t ≤ s.At ∧ (s.K = -1 ∨ 0 ≤ s.K ∧ k < s.K ∧ s.K < p.Next) ∧ setV s.People = true) (fun y hy => ?_) (fun J hJ => ?_)
    · obtain ⟨rfl, c1, c2, c3⟩ := hy
      have hC : (decide (t ≤ s.At) && (decide (s.K = -1) || decide (0 ≤ s.K) && decide (k < s.K) && decide (s.K < p.Next)) && setV s.People) = true := by
        rw [c3]; simp; omega
      rw [hC, Bool.true_and] at h3
      dsimp only
      rw [wrap_succ (by omega)]
      refine Ok.ite (fun g => ?_) (fun g => ?_)
      · rw [show max k s.K = s.K by omega] at h3
        exact hK _ _ (by omega) ⟨i + 1, s.K, s.At, rfl, by omega, by omega, by omega, h3, rfl⟩
      · rw [show max k s.K = k by omega] at h3
        exact hK _ _ (by omega) ⟨i + 1, k, s.At, rfl, by omega, by omega, by omega, h3, rfl⟩
    · refine Ok.ite (fun g1 => Ok.s ?_) (fun g1 => Ok.ite (fun g2 => Ok.s ?_) (fun g2 => Ok.ite (fun g3 => Ok.ite (fun g4 => Ok.s ?_) (fun g4 => Ok.ite (fun g5 => Ok.s ?_) (fun g5 => Ok.oe (set25_is (by omega)) (Ok.cnd (fun g6 => hJ _ ⟨rfl, by omega, by omega, g6⟩) (fun g6 => Ok.s ?_))))) (fun g3 => Ok.oe (set25_is (by omega)) (Ok.cnd (fun g6 => hJ _ ⟨rfl, by omega, by omega, g6⟩) (fun g6 => Ok.s ?_)))))
      · rw [← h3, decide_eq_false (show ¬ t ≤ s.At by omega)]; rfl
      · rw [← h3, decide_eq_false (show ¬ s.K = -1 by omega), decide_eq_false (show ¬ 0 ≤ s.K by omega)]; simp
      · rw [← h3, decide_eq_false (show ¬ s.K = -1 by omega), decide_eq_false (show ¬ k < s.K by omega)]; simp
      · rw [← h3, decide_eq_false (show ¬ s.K = -1 by omega), decide_eq_false (show ¬ s.K < p.Next by omega)]; simp
      · rw [← h3, g6]; simp
      · rw [← h3, g6]; simp
  · have e : i = p.Starts.length := by omega
    refine Ok.s ?_
    subst e
    rw [List.drop_length, startsF] at h3
    rw [← h3, Bool.true_and]
    exact decide_eq_decide.2 (by omega)
theorem count25_is {m : Nat} {q : D.Policy} (h : PolOK m q) : r25_Count 1000 q = some (countV q) := by
  have h1 := h.rep
  have h2 := h.len
  refine Ok.eq ?_
  unfold r25_Count
  refine Ok.j (Ok.oe rin (Ok.bt (inV_is.2 (by omega)) (Ok.n (by omega) (Ok.s ?_))))
  rw [(countV_is h).1, wrap_id (x := q.Repeat + 1) (by omega), wrap_id]
  have h3 : q.Repeat = 0 ∨ q.Repeat = 1 ∨ q.Repeat = 2 := by omega
  rcases h3 with h3 | h3 | h3 <;> rw [h3] <;> omega
theorem waits25_is {m : Nat} {q : D.Policy} (h : PolOK m q) : r25_Waits 1000 q = some true := by
  have h2 := h.len
  refine Ok.eq ?_
  unfold r25_Waits
  refine Ok.run2 q.Steps.length (fun i => ((i : Int), ())) rfl (by omega) (fun i hi k hk => ?_) (fun k => Ok.n (by omega) (Ok.s rfl))
  dsimp only
  have hw := (h.step _ (nth_mem hi)).wait
  refine Ok.p (by omega) (Ok.atn hi (Ok.oe rin (Ok.nt (inV_is.2 (by omega)) ?_)))
  rw [wrap_succ (by omega)]
  exact hk
theorem part25_is {m : Nat} {q : D.Policy} {i : Int} (h : PolOK m q) : r25_Part 1000 q i = some (partV q i) := by
  have h2 := h.len
  have hc := countV_is h
  refine Ok.eq ?_
  unfold r25_Part partV
  refine Ok.j (Ok.ite (fun g1 => Ok.s ?_) (fun g1 => Ok.oe (count25_is h) (Ok.ite (fun g2 => Ok.s ?_) (fun g2 => Ok.nzc (by omega) (Ok.nzc (by omega) (Ok.s ?_))))))
  · rw [if_neg (by omega)]
  · rw [if_neg (by omega)]
  · have g3 := Int.ediv_le_self (a := i) (q.Steps.length : Int) (by omega)
    have g4 : 0 ≤ i / (q.Steps.length : Int) := Int.ediv_nonneg (by omega) (by omega)
    rw [if_pos (by omega), Int.tmod_eq_emod_of_nonneg (by omega), Int.tdiv_eq_ediv_of_nonneg (by omega), wrap_id (by omega)]
def newV (b : D.Book) (id pol start : Int) : D.Page × Int :=
  if inV id 1 999999 = true ∧ inV start 0 8589934592 = true then (if inV pol 0 ((b.Policies.length : Int) - 1) = true then (newP id pol start, 0) else (page0, 3)) else (page0, 1)
theorem new29_is {id pol start : Int} (hb : BookOK b) : r29_New 1000 b id pol start = some (newV b id pol start) := by
  have hp := hb.plen
  refine Ok.eq ?_
  unfold r29_New newV
  refine Ok.j (Ok.oe rin (Ok.cnd (fun h1 => Ok.oe rin (Ok.cnd (fun h2 => ?_) (fun h2 => Ok.s ?_))) (fun h1 => Ok.s ?_)))
  · dsimp only
    rw [if_pos ⟨h1, h2⟩, wrap_id (by omega)]
    refine Ok.oe rin (Ok.ncnd (fun h3 => Ok.s ?_) (fun h3 => Ok.s ?_))
    · rw [if_neg (by rw [h3]; simp)]; rfl
    · rw [if_pos h3]; rfl
  · rw [if_neg (by rw [h2]; simp)]; rfl
  · rw [if_neg (by rw [h1]; simp)]; rfl
theorem check29_is (hb : BookOK b) (h : PageLen p) : r29_Check 1000 b p = some (checkV b p) := by
  have hde := h.de; have hse := h.se
  have hpl := hb.plen
  refine Ok.eq ?_
  unfold r29_Check
  refine Ok.j (Ok.oe (new29_is hb) ?_)
  unfold newV
  by_cases h1 : inV p.ID 1 999999 = true ∧ inV p.Start 0 8589934592 = true
  · rw [if_pos h1]
    by_cases h2 : inV p.Policy 0 ((b.Policies.length : Int) - 1) = true
    · rw [if_pos h2]
      have h2' := inV_is.1 h2
      have hq : PolOK b.Teams.length (polOf b p) := hb.pol _ (nth_mem (by omega))
      have hw := waits_true hq
      refine Ok.n (by simp) (Ok.at h2'.1 (by omega) ?_)
      show Ok (optc (r25_Waits 1000 (polOf b p)) _) _
      refine Ok.oe (waits25_is hq) (Ok.t (Ok.at h2'.1 (by omega) ?_))
      show Ok (optc (r25_Count 1000 (polOf b p)) _) _
      refine Ok.oe (count25_is hq) (Ok.oe rin (Ok.cnd (fun h4 => ?_) (fun h4 => Ok.s (by simp [checkV, h4]))))
      refine Ok.j (Ok.oe rin (Ok.cnd (fun h5 => ?_) (fun h5 => Ok.s (by simp [checkV, h5]))))
      refine Ok.oe rin (Ok.cnd (fun h6 => ?_) (fun h6 => Ok.s (by simp [checkV, h6])))
      refine Ok.oe rin (Ok.cnd (fun h7 => ?_) (fun h7 => Ok.s (by have h7 : inV p.Last p.Start farV = false := h7; simp [checkV, h7])))
      refine Ok.oe rin (Ok.cnd (fun h8 => ?_) (fun h8 => Ok.s (by have h8 : inV p.Due 0 farV = false := h8; simp [checkV, h8])))
      refine Ok.oe rin (Ok.cnd (fun h9 => ?_) (fun h9 => Ok.s (by have h9 : inV p.Until 0 farV = false := h9; simp [checkV, h9])))
      refine Ok.j (Ok.oe rin (Ok.cnd (fun h10 => ?_) (fun h10 => Ok.s (by simp [checkV, h10]))))
      refine Ok.oe rin (Ok.cnd (fun h11 => ?_) (fun h11 => Ok.s (by simp [checkV, h11])))
      refine Ok.oe (starts29_is h) (Ok.cnd (fun h12 => ?_) (fun h12 => Ok.s (by simp [checkV, h12])))
      refine Ok.oe (set25_is (by omega)) (Ok.cnd (fun h13 => ?_) (fun h13 => Ok.s (by simp [checkV, h13])))
      refine Ok.ite (fun h14 => Ok.s (by simp [checkV, seenV, decide_eq_false (show ¬ p.Seen.length ≤ 64 by omega)])) (fun h14 => ?_)
      have h7' : inV p.Last p.Start farV = true := h7
      have h8' : inV p.Due 0 farV = true := h8
      have h9' : inV p.Until 0 farV = true := h9
      have hcv : checkV b p = seenV p.Seen := by simp [checkV, h1.1, h1.2, h2, hw, h4, h5, h6, h7', h8', h9', h10, h11, h12, h13]
      rw [hcv]
      unfold seenV
      rw [decide_eq_true (show p.Seen.length ≤ 64 by omega), Bool.and_true]
      refine Ok.scan2 p.Seen.length (fun i => ((i : Int), ())) (fun i => (p.Seen.take i).contains (nth p.Seen i)) rfl (by omega) (fun i hi hq _ k => ?_) (fun i hi hq k hk => ?_) (fun hq k => ?_)
      · refine Ok.p (by omega) (Ok.natn (Ok.lec (by omega) (Ok.atn hi (Ok.oe (has25_is (by simp; omega)) (Ok.bt hq (Ok.s ?_))))))
        rw [seen_bad hi hq]
      · refine Ok.p (by omega) (Ok.natn (Ok.lec (by omega) (Ok.atn hi (Ok.oe (has25_is (by simp; omega)) (Ok.bf hq ?_)))))
        rw [wrap_succ (by omega)]; exact hk
      · exact Ok.n (by omega) (Ok.s (decide_eq_true (seen_good hq)).symm)
    · rw [if_neg h2]
      exact Ok.p (by simp) (Ok.s (by simp [checkV, h2]))
  · rw [if_neg h1]
    refine Ok.p (by simp) (Ok.s ?_)
    have : checkV b p = false := by
      rw [Bool.eq_false_iff]
      intro hc
      have hf := checkV_facts hc
      exact h1 ⟨inV_is.2 hf.id, inV_is.2 hf.start⟩
    rw [this]
theorem due29_is : r29_Due 1000 p = some (dueV p) := due_is
theorem called29_is (h : PageLen p) : r29_Called 1000 p = some (calledV p) := by
  have h1 := h.st
  refine Ok.eq ?_
  unfold r29_Called calledV
  refine Ok.ite (fun h0 => Ok.s ?_) (fun h0 => ?_)
  · rw [if_pos (List.eq_nil_iff_length_eq_zero.2 (by omega))]
  · have hne : p.Starts ≠ [] := fun e => h0 (by rw [e]; rfl)
    have hpos := List.length_pos_iff.2 hne
    rw [show IntKind.wrap .i64 (((p.Starts.length : Nat) : Int) - 1) = ((p.Starts.length - 1 : Nat) : Int) by rw [wrap_id (by omega)]; omega]
    have hp := (h.pe _ (nth_mem (l := p.Starts) (i := p.Starts.length - 1) (by omega))).1
    refine Ok.atn (by omega) (Ok.lec (by omega) (Ok.s ?_))
    rw [if_neg hne]
theorem copy29_is (h : PageLen p) : r29_Copy 1000 p = some p := by
  have h1 := h.st; have h2 := h.de; have h3 := h.se
  refine Ok.eq ?_
  unfold r29_Copy
  refine Ok.run p.Starts.length (fun i => (((i : Int), ()), p, page0, p.Starts.take i, ())) rfl (by omega) (fun i hi k hk => ?_) (fun k => ?_)
  · dsimp only
    have hp := (h.pe _ (nth_mem hi)).1
    refine Ok.p (by omega) (Ok.atn hi (Ok.lec (by omega) (Ok.lec (by simp; omega) ?_)))
    rw [wrap_succ (by omega), take_snoc' hi]
    exact hk
  · dsimp only
    rw [List.take_length]
    exact Ok.n (by omega) (Ok.lec (by omega) (Ok.lec (by omega) (Ok.s rfl)))
theorem filter_snoc {l : List Int} {f : Int → Bool} {i : Nat} (hi : i < l.length) : (l.take (i + 1)).filter f = (l.take i).filter f ++ (if f (nth l i) = true then [nth l i] else []) := by
  rw [← take_snoc' hi, List.filter_append]
  congr 1
  by_cases h : f (nth l i) = true
  · simp [h]
  · simp [h]
theorem step29_is (h : CfgOK n c) (hn : n ≤ 48) (hb : BookOK b) (hp : PageLen p) : r29_Step 1000 c b p = some (stepV c b p) := by
  refine Ok.eq ?_
  unfold r29_Step
  have hst := hp.st
  refine Ok.oe (check29_is hb hp) (Ok.ncnd (fun hc => Ok.s ?_) (fun hc => ?_))
  · unfold stepV; rw [if_pos hc]; rfl
  have hf := checkV_facts hc
  refine Ok.oe due29_is (Ok.ncnd (fun hd => Ok.s ?_) (fun hd => ?_))
  · unfold stepV; rw [if_neg (by rw [hc]; simp), if_pos hd]; rfl
  have hst2 := hf.starts
  refine Ok.ite (fun hl => Ok.s ?_) (fun hl => ?_)
  · unfold stepV; rw [if_neg (by rw [hc]; simp), if_neg (by rw [hd]; simp), if_pos (by omega)]; rfl
  have hV : stepV c b p = (stepQ c b p, 0) := by unfold stepV; rw [if_neg (by rw [hc]; simp), if_neg (by rw [hd]; simp), if_neg (by omega)]
  rw [hV]
  have hs := due_state hd
  have hpol := hf.pol; have hnx := hf.next; have hl2 := hf.last; have hdu := hf.due
  refine Ok.oe (copy29_is hp) (Ok.ite (fun h2 => Ok.s ?_) (fun h2 => ?_))
  · unfold stepQ
    rw [if_pos h2, dueV_fst2 h2]
  · have h0 : p.State = 0 := by omega
    have hq := hf.polOK hb
    have hcn := countV_is hq
    have hql := hq.len
    refine Ok.at hpol.1 hpol.2 ?_
    show Ok (optc (r25_Part 1000 (polOf b p) p.Next) _) _
    refine Ok.oe (part25_is hq) ?_
    unfold partV
    rw [dueV_fst0 h0]
    by_cases he : p.Next < countV (polOf b p)
    · rw [if_pos ⟨hnx.1, he⟩]
      dsimp only
      have hm := mod_in (q := polOf b p) (i := p.Next) hql.1
      refine Ok.f (Ok.at hm.1 hm.2 ?_)
      have hstp := hq.step _ (step_in hq hnx.1)
      have hw : 0 ≤ (stepAt b p).Wait ∧ (stepAt b p).Wait ≤ 900 := hstp.wait
      have hlen : (stepAt b p).Targets.length ≤ 2 := hstp.len
      show Ok (optc (r25_People 1000 c b (stepAt b p).Targets p.Due) _) _
      refine Ok.oe (peopleR_ok h hn hb hstp.target (by omega)) ?_
      have hpl := peopleV_len (c := c) (b := b) (l := (stepAt b p).Targets) (t := p.Due)
      obtain ⟨l, hl3⟩ : ∃ l, peopleV c b (stepAt b p).Targets p.Due = l := ⟨_, rfl⟩
      rw [hl3] at hpl ⊢
      have hcall : callV c b (stepAt b p) p.Due = l.filter fun z => reachV c z p.Due (stepAt b p).Urgent := by unfold callV; rw [hl3]
      refine Ok.run l.length (fun i => ((p.Due, p.Next % ((polOf b p).Steps.length : Int), l, (i : Int), ()), c, p, page0, (p.ID, p.Policy, p.Start, p.Next, p.Due, p.State, p.By, p.Until, max p.Due p.Last, p.Snoozes, p.Hands, ()), polOf b p, (p.Next, p.Due, ()), p.Starts, p.Declined, p.Seen, (l.take i).filter (fun z => reachV c z p.Due (stepAt b p).Urgent), ())) rfl (by omega) (fun i hi k hk => ?_) (fun k => ?_)
      · dsimp only
        have hfl := List.length_filter_le (fun z => reachV c z p.Due (stepAt b p).Urgent) (l.take i)
        have htl := List.length_take_le i l
        refine Ok.p (by omega) (Ok.j (Ok.atn hi (Ok.at hm.1 hm.2 (Ok.oe (reachR_is h hn) ?_))))
        show Ok (AM.cnd (reachV c (nth l i) p.Due (stepAt b p).Urgent) _ _) _
        rw [filter_snoc hi] at hk
        refine Ok.cnd (fun g => Ok.atn hi (Ok.lec (by simp; omega) ?_)) (fun g => ?_)
        · dsimp only
          rw [if_pos g] at hk
          rw [wrap_succ (by omega)]
          exact hk
        · dsimp only
          rw [if_neg (by rw [g]; simp), List.append_nil] at hk
          rw [wrap_succ (by omega)]
          exact hk
      · dsimp only
        rw [List.take_length, ← hcall]
        unfold stepQ
        rw [if_neg h2, if_neg (by omega)]
        refine Ok.n (by omega) (Ok.lec (by simp; omega) (Ok.j (Ok.ite (fun g => Ok.at hm.1 hm.2 (Ok.s ?_)) (fun g => Ok.s ?_))))
        · have hne : callV c b (stepAt b p) p.Due ≠ [] := fun e => by rw [e] at g; simp at g
          unfold farV at hdu
          show _ = _
          rw [if_neg hne, wrap_id (by omega)]
          have : IntKind.wrap .i64 (p.Due + (stepAt b p).Wait) = p.Due + (stepAt b p).Wait := wrap_id (by omega)
          unfold stepAt at this
          rw [this]
          rfl
        · have he' : callV c b (stepAt b p) p.Due = [] := List.eq_nil_iff_length_eq_zero.2 (by omega)
          show _ = _
          rw [if_pos he', wrap_id (by omega)]
    · rw [if_neg (by omega)]
      dsimp only
      refine Ok.t (Ok.s ?_)
      unfold stepQ
      rw [if_neg h2, if_pos (by omega)]
theorem run29_is (h : CfgOK n c) (hn : n ≤ 48) (hb : BookOK b) (hp : PageLen p) : r29_Run 1000 c b p now = some (runV c b p now) := by
  refine Ok.eq ?_
  unfold r29_Run
  refine Ok.oe (check29_is hb hp) (Ok.ncnd (fun hc => Ok.s ?_) (fun hc => ?_))
  · unfold runV; rw [if_pos hc]; rfl
  rw [runV_is hc]
  have hf := checkV_facts hc
  have hcn := countV_is (hf.polOK hb)
  have hnx := hf.next
  have hle : leftV b p ≤ 11 := by
    unfold leftV
    split
    · omega
    · split <;> omega
  refine Ok.oe (copy29_is hp) ?_
  refine Ok.loop (fun m x => ∃ (q : D.Page) (k : Nat), x = ((now, ()), c, b, q, page0, ()) ∧ PageLen q ∧ leftV b q + 1 ≤ k ∧ runN c b now k q = runN c b now 100 p ∧ m = leftV b q) (m := leftV b p) (by omega) ⟨p, 100, rfl, hp, by omega, rfl, rfl⟩ ?_
  rintro m x ⟨q, k, rfl, hq, hk, he, rfl⟩ K hK
  dsimp only
  obtain ⟨k, rfl⟩ : ∃ k', k = k' + 1 := ⟨k - 1, by omega⟩
  rw [runN] at he
  refine Ok.oe due29_is ?_
  have hwv : waitB q now = ((dueV q).2 && decide ((dueV q).1 ≤ now)) := rfl
  refine Ok.join (fun y => y = ((now, ()), c, b, q, page0, ()) ∧ waitB q now = true) (fun y hy => ?_) (fun J hJ => ?_)
  · obtain ⟨rfl, hw⟩ := hy
    dsimp only
    rw [if_pos hw] at he
    refine Ok.oe (step29_is h hn hb hq) (Ok.ite (fun h1 => Ok.s ?_) (fun h1 => ?_))
    · rw [if_pos h1] at he; exact he
    · rw [if_neg h1] at he
      have hd := waitB_due hw
      have hst : stepV c b q = (stepQ c b q, 0) := by
        revert h1
        unfold stepV
        split
        · simp
        · split
          · simp
          · split
            · simp
            · intro _; rfl
      have hl := step_left (c := c) (b := b) hd.1
      rw [hst] at he ⊢
      refine hK (leftV b (stepQ c b q)) _ hl ⟨stepQ c b q, k, rfl, ?_, by omega, he, rfl⟩
      have := hq.stepV (c := c) hb
      rw [hst] at this; exact this
  · refine Ok.cnd (fun h1 => Ok.ite (fun h2 => Ok.s ?_) (fun h2 => hJ _ ⟨rfl, by rw [hwv, h1]; simp; omega⟩)) (fun h1 => Ok.s ?_)
    · rw [if_neg (by rw [hwv, h1]; simp; omega)] at he; exact he
    · rw [if_neg (by rw [hwv, h1]; simp)] at he; exact he
end
end Go.Proofs.YtfhcigjkfelnfaaGreat
/-
  Pages on their way: what the program's answers compute.
-/
set_option maxRecDepth 100000
set_option linter.unusedVariables false
set_option linter.unusedSimpArgs false
namespace Go.Proofs.YtfhcigjkfelnfaaGreat
open Go AM
section
variable {n : Nat} {c : D.Config} {b : D.Book} {p q : D.Page} {now : Int} {a : D.Answer}
theorem due0_is : escalate_Due_0c11c12c13 1000 p = some (dueV p) := by
  unfold escalate_Due_0c11c12c13
  simp only [sameC_p]
  exact due_is
theorem waits0_is {t : Int} : escalate_waits_0c11c12c13 1000 p t = some (waitB p t) := by
  unfold escalate_waits_0c11c12c13 waitB
  simp only [sameC_p]
  rw [due0_is, optc_s]
  obtain ⟨a, d⟩ := dueV p
  cases d <;> by_cases h : a ≤ t <;> simp [AM.cnd, h]
theorem called_is (h : PageLen p) : escalate_Called 1000 p = some (calledV p) := by
  have h1 := h.st
  refine Ok.eq ?_
  unfold escalate_Called calledV
  refine Ok.ite (fun h0 => Ok.s ?_) (fun h0 => ?_)
  · rw [if_pos (List.eq_nil_iff_length_eq_zero.2 (by omega))]
  · have hne : p.Starts ≠ [] := fun e => h0 (by rw [e]; rfl)
    have hpos := List.length_pos_iff.2 hne
    rw [show IntKind.wrap .i64 (((p.Starts.length : Nat) : Int) - 1) = ((p.Starts.length - 1 : Nat) : Int) by rw [wrap_id (by omega)]; omega]
    have hp := (h.pe _ (nth_mem (l := p.Starts) (i := p.Starts.length - 1) (by omega))).1
    refine Ok.atn (by omega) (Ok.oe (cloneI_is (by omega)) (Ok.s ?_))
    rw [if_neg hne]
theorem called0_is (h : PageLen p) : escalate_Called_0c11c12c13 1000 p = some (calledV p) := by
  have h1 := h.st
  refine Ok.eq ?_
  unfold escalate_Called_0c11c12c13 calledV
  refine Ok.ite (fun h0 => Ok.sameC (Ok.sameC (Ok.sameC (Ok.s ?_)))) (fun h0 => ?_)
  · rw [if_pos (List.eq_nil_iff_length_eq_zero.2 (by omega))]
  · have hne : p.Starts ≠ [] := fun e => h0 (by rw [e]; rfl)
    have hpos := List.length_pos_iff.2 hne
    rw [show IntKind.wrap .i64 (((p.Starts.length : Nat) : Int) - 1) = ((p.Starts.length - 1 : Nat) : Int) by rw [wrap_id (by omega)]; omega]
    have hp := (h.pe _ (nth_mem (l := p.Starts) (i := p.Starts.length - 1) (by omega))).1
    refine Ok.natn (Ok.lt (by omega) (Ok.get (by omega) (Ok.oe (cloneI_is (by omega)) (Ok.sameC (Ok.sameC (Ok.sameC (Ok.s ?_)))))))
    rw [if_neg hne]
theorem called_len (h : PageLen p) : (calledV p).length ≤ 40 := by
  unfold calledV
  split
  · simp
  · rename_i hne
    have hpos := List.length_pos_iff.2 hne
    exact (h.pe _ (nth_mem (by omega))).1
theorem refused_is : escalate_refused_0c11c12c13 1000 p a = some (refusedV p a) := by
  refine Ok.eq ?_
  unfold escalate_refused_0c11c12c13
  refine Ok.join (fun y => y.1.1 = decide ((a.Kind = 3 ∧ p.Snoozes = 4) ∨ (a.Kind = 4 ∧ (p.Hands = 4 ∨ p.Starts.length = 200))) ∧ y.2 = (pgA p, a, p.Starts, p.Declined, p.Seen, ())) (fun y hy => ?_) (fun J hJ => ?_)
  · obtain ⟨⟨full, ⟨⟩⟩, r⟩ := y
    obtain ⟨h1, h2⟩ := hy
    dsimp only at h1 h2
    subst h2
    dsimp only [pgA]
    refine Ok.j (Ok.ite (fun g1 => Ok.sameC (Ok.sameC (Ok.sameC (Ok.s ?_)))) (fun g1 => ?_))
    · unfold refusedV; rw [if_pos (.inl g1)]
    refine Ok.oe (waits0_is (p := p)) (Ok.cnd (fun g2 => Ok.sameC (Ok.sameC (Ok.sameC (Ok.s ?_)))) (fun g2 => ?_))
    · unfold refusedV; rw [if_pos (.inr g2)]
    unfold refusedV
    rw [if_neg (by rw [g2]; simp; omega)]
    refine Ok.join (fun y => y.1.1 = full ∧ y.1.2.1 = decide (p.State = 4 ∨ (p.State = 3 ∧ a.Kind ≠ 5) ∨ (p.State = 1 ∧ a.Kind = 2)) ∧ y.2 = (pgA p, p.Starts, p.Declined, p.Seen, ())) (fun y hy => ?_) (fun J hJ => ?_)
    · obtain ⟨⟨f2, s2, ⟨⟩⟩, r⟩ := y
      obtain ⟨k1, k2, k3⟩ := hy
      dsimp only at k1 k2 k3
      subst k3; subst k1
      dsimp only [pgA]
      refine Ok.cnd (fun g3 => Ok.sameC (Ok.sameC (Ok.sameC (Ok.s ?_)))) (fun g3 => ?_)
      · rw [k2] at g3; rw [if_pos (of_decide_eq_true g3)]
      · rw [k2] at g3; rw [if_neg (of_decide_eq_false g3)]
        refine Ok.ite (fun g4 => Ok.sameC (Ok.sameC (Ok.sameC (Ok.s ?_)))) (fun g4 => ?_)
        · rw [if_pos (.inl (by omega))]
        · refine Ok.cnd (fun g5 => Ok.sameC (Ok.sameC (Ok.sameC (Ok.s ?_)))) (fun g5 => Ok.sameC (Ok.sameC (Ok.sameC (Ok.s ?_))))
          · rw [h1] at g5; have := of_decide_eq_true g5; rw [if_pos (.inr this)]
          · rw [h1] at g5; have := of_decide_eq_false g5; rw [if_neg (by omega)]
    · refine Ok.ite (fun g3 => hJ _ ⟨rfl, ?_, rfl⟩) (fun g3 => Ok.ite (fun g4 => Ok.ite (fun g5 => hJ _ ⟨rfl, ?_, rfl⟩) (fun g5 => Ok.ite (fun g6 => Ok.ite (fun g7 => hJ _ ⟨rfl, ?_, rfl⟩) (fun g7 => hJ _ ⟨rfl, ?_, rfl⟩)) (fun g6 => hJ _ ⟨rfl, ?_, rfl⟩))) (fun g4 => Ok.ite (fun g6 => Ok.ite (fun g7 => hJ _ ⟨rfl, ?_, rfl⟩) (fun g7 => hJ _ ⟨rfl, ?_, rfl⟩)) (fun g6 => hJ _ ⟨rfl, ?_, rfl⟩)))
      all_goals (dsimp only; first | exact (decide_eq_true (by omega)).symm | exact (decide_eq_false (by omega)).symm | exact decide_eq_decide.2 (by omega))
  · refine Ok.ite (fun g1 => Ok.ite (fun g2 => hJ _ ⟨?_, rfl⟩) (fun g2 => Ok.ite (fun g3 => Ok.ite (fun g4 => hJ _ ⟨?_, rfl⟩) (fun g4 => Ok.ite (fun g5 => hJ _ ⟨?_, rfl⟩) (fun g5 => hJ _ ⟨?_, rfl⟩))) (fun g3 => hJ _ ⟨?_, rfl⟩)))
      (fun g1 => Ok.ite (fun g3 => Ok.ite (fun g4 => hJ _ ⟨?_, rfl⟩) (fun g4 => Ok.ite (fun g5 => hJ _ ⟨?_, rfl⟩) (fun g5 => hJ _ ⟨?_, rfl⟩))) (fun g3 => hJ _ ⟨?_, rfl⟩))
    all_goals (dsimp only; first | exact (decide_eq_true (by omega)).symm | exact (decide_eq_false (by omega)).symm)
theorem swap_perm {l : List Int} {j : Nat} (h1 : 1 ≤ j) (hj : j < l.length) : (swapL l j).Perm l := by
  unfold swapL
  have e1 : nth l j = l[j] := by simp [nth, List.getD_eq_getElem?_getD, List.getElem?_eq_getElem hj]
  have e2 : nth l (j - 1) = l[j - 1] := by simp [nth, List.getD_eq_getElem?_getD, List.getElem?_eq_getElem (show j - 1 < l.length by omega)]
  rw [e1, e2]
  exact List.set_set_perm hj (by omega)
theorem isort0_ok {l0 : List Int} (hs : l0.length ≤ 900) :
    Ok (slices_insertionSortOrdered_int_0 1000 l0 0 ((l0.length : Nat) : Int)) fun r => r.Perm l0 ∧ SortedTo r l0.length := by
  obtain ⟨m, hm⟩ : ∃ m, l0.length = m := ⟨_, rfl⟩
  rw [hm]
  rw [hm] at hs
  unfold slices_insertionSortOrdered_int_0
  refine Ok.loop (fun q x => ∃ i a, x = ((0, (m : Int), ((i : Nat) : Int), ()), a, ()) ∧ 1 ≤ i ∧ a.Perm l0 ∧ SortedTo a (min i m) ∧ q = m + 1 - i) (m := m) (by omega)
    ⟨1, l0, by rw [wrap_id (by omega)]; rfl, by omega, .refl _, fun a b h1 h2 => by omega, by omega⟩ ?_
  rintro q x ⟨i, a, rfl, h1, h2, h3, rfl⟩ K hK
  have hal := h2.length_eq
  dsimp only
  refine Ok.ite (fun hi => ?_) (fun hi => Ok.s ⟨h2, by rw [show min i m = m by omega] at h3; exact h3⟩)
  have hlt : i < m := by omega
  rw [show min i m = i by omega] at h3
  refine Ok.j ?_
  refine Ok.loop (fun q x => ∃ j a', x = ((0, (m : Int), ((i : Nat) : Int), ((j : Nat) : Int), ()), a', ()) ∧ j ≤ i ∧ a'.Perm l0 ∧ ButFor a' (i + 1) j ∧ q = j) (m := i) (by omega)
    ⟨i, a, rfl, by omega, h2, butfor_start h3, rfl⟩ ?_
  rintro q x ⟨j, a', rfl, g1, g2, g3, hqj⟩ K2 hK2
  have hal' := g2.length_eq
  dsimp only
  have fin : (j = 0 ∨ nth a' (j - 1) ≤ nth a' j) → Ok (K ((0, (m : Int), IntKind.wrap .i64 ((i : Int) + 1), ()), a', ())) fun r => r.Perm l0 ∧ SortedTo r m := fun he => by
    rw [wrap_succ (by omega)]
    exact hK (m + 1 - (i + 1)) _ (by omega) ⟨i + 1, a', rfl, by omega, g2, by rw [show min (i + 1) m = i + 1 by omega]; exact butfor_end g3 he, rfl⟩
  refine Ok.j (Ok.ite (fun hj => ?_) (fun hj => fin (.inl (by omega))))
  have hw : IntKind.wrap .i64 ((j : Int) - 1) = ((j - 1 : Nat) : Int) := by rw [wrap_id (by omega)]; omega
  rw [hw]
  refine Ok.natn (Ok.lt (by omega) (Ok.get (by omega) (Ok.natn (Ok.lt (by omega) (Ok.get (by omega) (Ok.oe less_is (Ok.ite (fun hless => ?_) (fun hless => fin (.inr (by omega))))))))))
  dsimp only
  rw [hw]
  refine Ok.natn (Ok.lt (by omega) (Ok.get (by omega) (Ok.natn (Ok.lt (by omega) (Ok.get (by omega) (Ok.natn (Ok.lt (by omega) (Ok.get (by omega) (Ok.natn (Ok.lt (by simp; omega) (Ok.get (by simp; omega) ?_)))))))))))
  have hsw : (a'.set j (nth a' (j - 1))).set (j - 1) (nth a' j) = swapL a' j := rfl
  rw [hsw]
  exact hK2 (j - 1) _ (by omega) ⟨j - 1, swapL a' j, rfl, by omega, (swap_perm (by omega) (by omega)).trans g2, butfor_step g3 (by omega) (by omega) (by omega) hless, rfl⟩
theorem sort0_ok {l0 : List Int} (hs : l0.length ≤ 12) :
    Ok (slices_Sort_int_0 1000 l0) fun r => r.Perm l0 ∧ SortedTo r l0.length := by
  unfold slices_Sort_int_0
  obtain ⟨bv, hb⟩ := Option.isSome_iff_exists.1 (bits_ok l0.length (by omega))
  refine Ok.oe hb (Ok.opt (P := fun r => r.Perm l0 ∧ SortedTo r l0.length) ?_ fun r hr => Ok.ck hr.1.length_eq (Ok.s hr))
  unfold slices_pdqsortOrdered_int_0
  refine Ok.loop (fun q x => x = ((0, ((l0.length : Nat) : Int), bv, true, true, ()), l0, ())) (m := 0) (by omega) rfl ?_
  rintro q x rfl K hK
  dsimp only
  refine Ok.p (by rw [wrap_id (by omega)]; omega) (Ok.opt (isort0_ok (by omega)) fun r hr => Ok.ck hr.1.length_eq (Ok.s hr))
theorem asc_sorted {l : List Int} (h : SortedTo l l.length) (hd : l.Nodup) : Asc l := by
  refine asc_of h fun k h1 h2 e => ?_
  have e1 : nth l (k - 1) = l[k - 1] := by simp [nth, List.getD_eq_getElem?_getD, List.getElem?_eq_getElem (show k - 1 < l.length by omega)]
  have e2 : nth l k = l[k] := by simp [nth, List.getD_eq_getElem?_getD, List.getElem?_eq_getElem h2]
  rw [e1, e2] at e
  have := (List.nodup_iff_pairwise_ne.1 hd)
  exact (List.pairwise_iff_getElem.1 this (k - 1) k (by omega) h2 (by omega)) e
theorem asc_nodup {l : List Int} (h : Asc l) : l.Nodup := List.Pairwise.imp (fun h => by omega) h
theorem sort_plus {l r : List Int} {x : Int} (hl : Asc l) (hx : l.contains x = false) (hp : r.Perm (l ++ [x])) (hs : SortedTo r r.length) : r = plusV l x := by
  have hnd : (l ++ [x]).Nodup := List.nodup_append.2 ⟨asc_nodup hl, by simp, fun y hy z hz e => by
    rw [List.mem_singleton.1 hz] at e
    subst e
    rw [List.contains_iff_mem.2 hy] at hx; simp at hx⟩
  refine asc_ext (asc_sorted hs (hp.nodup_iff.2 hnd)) (plusV_is hl).1 fun z => ?_
  rw [hp.mem_iff, (plusV_is hl).2]; simp
theorem decl1_is {x : Int} (h : p.Declined.length ≤ 40) : escalate_declined_1_b11_12_13 1000 x p = some (!p.Declined.contains x, p) := by
  unfold escalate_declined_1_b11_12_13
  rw [contains0_is (by omega), optc_s]
theorem containsD_is {l : List Int} (hl : l.length ≤ 900) (h : p.Declined.length ≤ 40) : slices_ContainsFunc_int_1Fescalate_declined_1b11_12_13 1000 l p = some (l.any fun z => !p.Declined.contains z, p) := by
  refine Ok.eq ?_
  unfold slices_ContainsFunc_int_1Fescalate_declined_1b11_12_13 slices_IndexFunc_int_1Fescalate_declined_1b11_12_13
  refine Ok.opt (P := fun (r : Int × D.Page) => decide (0 ≤ r.1) = (l.any fun z => !p.Declined.contains z) ∧ r.2 = p) ?_ fun ⟨r, p'⟩ ⟨e1, e2⟩ => Ok.s (by dsimp only at e1 e2; rw [e1, e2])
  refine Ok.scan2 l.length (fun i => (l, ((l.length : Nat) : Int), (i : Int), ())) (fun i => !p.Declined.contains (nth l i)) rfl (by omega) (fun i hi hq _ k => ?_) (fun i hi hq k hk => ?_) (fun hq k => ?_)
  · refine Ok.p (by omega) (Ok.atn hi (Ok.oe (decl1_is (p := p) h) (Ok.bt hq (Ok.s ⟨?_, rfl⟩))))
    rw [any_yes hi hq]; simp
  · refine Ok.p (by omega) (Ok.atn hi (Ok.oe (decl1_is (p := p) h) (Ok.bf hq ?_)))
    rw [wrap_succ (by omega)]; exact hk
  · refine Ok.n (by omega) (Ok.s ⟨?_, rfl⟩)
    rw [any_no hq]; rfl
theorem declQ_len (hs : setV p.Declined = true) (hd : p.Declined.length ≤ 11) : (declQ p a).length ≤ 40 := by
  unfold declQ
  split
  · have hde := setV_is.1 hs
    unfold plusV
    have h1 := List.length_filter_le (fun z => decide (z < a.Person)) p.Declined
    have h2 := List.length_filter_le (fun z => decide (a.Person < z)) p.Declined
    simp only [List.length_append, List.length_cons]; omega
  · omega
theorem declined_is (h : PageLen p) (hd : p.Declined.length ≤ 11) (hs : setV p.Declined = true) :
    escalate_declined_0c11c12c13 1000 p a = some { p with Declined := declQ p a, Due := if allDown p a = true ∧ p.State = 0 then a.At else p.Due } := by
  have hcl := called_len h
  refine Ok.eq ?_
  unfold escalate_declined_0c11c12c13
  refine Ok.oe (called0_is h) ?_
  refine Ok.join (fun y => y = ((calledV p, ()), pgA p, a, page0, p.Starts, declQ p a, p.Seen, ())) (fun y hy => ?_) (fun J hJ => ?_)
  · subst hy
    dsimp only [pgA]
    have hdl := declQ_len (a := a) hs hd
    refine Ok.j (Ok.ite (fun g1 => Ok.ite (fun g2 => ?_) (fun g2 => Ok.s ?_)) (fun g1 => Ok.s ?_))
    · refine Ok.oe (containsD_is (p := { p with Declined := declQ p a }) (by omega) hdl) (Ok.cnd (fun g3 => Ok.s ?_) (fun g3 => Ok.s ?_))
      · have : allDown p a = false := by
          unfold allDown
          rw [Bool.and_eq_false_iff]
          refine .inr ?_
          obtain ⟨z, hz1, hz2⟩ := List.any_eq_true.1 g3
          refine List.all_eq_false.2 ⟨z, hz1, ?_⟩
          simpa using hz2
        rw [this, if_neg (by simp)]
      · have : allDown p a = true := by
          unfold allDown
          rw [Bool.and_eq_true]
          refine ⟨decide_eq_true fun e => by rw [e] at g2; simp at g2, List.all_eq_true.2 fun z hz => ?_⟩
          have := List.any_eq_false.1 g3 z hz
          simpa using this
        rw [this, if_pos ⟨rfl, g1⟩]
    · have : allDown p a = false := by
        unfold allDown
        rw [decide_eq_false (fun hne => hne (List.eq_nil_iff_length_eq_zero.2 (by omega)))]; rfl
      rw [this, if_neg (by simp)]
    · rw [if_neg (fun hx => g1 hx.2)]
  · refine Ok.oe (contains_is (by omega)) (Ok.cnd (fun g1 => ?_) (fun g1 => ?_))
    · refine Ok.oe (contains0_is (by omega)) (Ok.cnd (fun g2 => ?_) (fun g2 => ?_))
      · refine hJ _ ?_
        have : declQ p a = p.Declined := by
          unfold declQ
          rw [if_pos g1]; exact plusV_old (setV_is.1 hs).1 (List.contains_iff_mem.1 g2)
        rw [this]; rfl
      · refine Ok.lec (by simp; omega) (Ok.opt (sort0_ok (by simp; omega)) fun r ⟨hr1, hr2⟩ => Ok.ck hr1.length_eq (hJ _ ?_))
        have : r = declQ p a := by
          unfold declQ
          rw [if_pos g1]
          exact sort_plus (setV_is.1 hs).1 g2 hr1 (by rw [hr1.length_eq]; exact hr2)
        rw [this]; rfl
    · refine hJ _ ?_
      have : declQ p a = p.Declined := by unfold declQ; rw [if_neg (by rw [g1]; simp)]
      rw [this]; rfl
theorem answer_is (hb : BookOK b) (h : PageLen p) (hd : p.Declined.length ≤ 11) : escalate_Answer 1000 c b p a = some (answerV b p a) := by
  have hse := h.se; have hst := h.st
  refine Ok.eq ?_
  unfold escalate_Answer
  refine Ok.join (fun y => y = ((), p, a, page0, ()) ∧ checkV b p = true ∧ validV a = true) (fun y hy => ?_) (fun J hJ => ?_)
  · obtain ⟨rfl, hc, hv⟩ := hy
    dsimp only
    unfold answerV
    rw [if_neg (by rw [hc, hv]; simp)]
    have hf := checkV_facts hc
    have hv' := hv
    unfold validV at hv'
    simp only [Bool.and_eq_true, inV_is] at hv'
    obtain ⟨⟨⟨⟨⟨v1, v2⟩, v3⟩, v4⟩, v5⟩, v6⟩ := hv'
    have hsn := hf.snoozes; have hha := hf.hands
    refine Ok.ite (fun g1 => Ok.s ?_) (fun g1 => ?_)
    · rw [if_pos g1]; rfl
    rw [if_neg g1]
    refine Ok.oe (copied_is h) (Ok.oe (contains0_is (by omega)) (Ok.cnd (fun g2 => Ok.s ?_) (fun g2 => ?_)))
    · rw [if_pos g2]
    rw [if_neg (by rw [g2]; simp)]
    refine Ok.oe refused_is (Ok.ite (fun g3 => Ok.s ?_) (fun g3 => ?_))
    · rw [if_pos g3]; rfl
    rw [if_neg g3]
    refine Ok.lec (by simp; omega) ?_
    refine Ok.join (fun y => y = ((), pgA p, a, page0, p.Starts, p.Declined, p.Seen ++ [a.ID], ()) ∧ ¬ (a.Kind = 1 ∧ p.State = 1)) (fun y hy => ?_) (fun J hJ => ?_)
    · obtain ⟨rfl, hn⟩ := hy
      dsimp only [pgA]
      unfold answerQ
      refine Ok.j (Ok.ite (fun k1 => Ok.s ?_) (fun k1 => Ok.ite (fun k2 => ?_) (fun k2 => Ok.ite (fun k3 => Ok.s ?_) (fun k3 => Ok.ite (fun k4 => Ok.lec (by simp; omega) (Ok.s ?_)) (fun k4 => Ok.ite (fun k5 => Ok.s ?_) (fun k5 => absurd v5 (by omega)))))))
      · rw [if_pos k1, if_neg (by omega)]
      · rw [if_neg k1, if_pos k2]
        have hp' : PageLen { p with Last := a.At, Seen := p.Seen ++ [a.ID] } := ⟨h.st, h.pe, h.de, by have := hf.seen; dsimp only; simp; omega, h.nx⟩
        exact Ok.oe (declined_is (p := { p with Last := a.At, Seen := p.Seen ++ [a.ID] }) hp' hd hf.declined) (Ok.s rfl)
      · rw [if_neg k1, if_neg k2, if_pos k3]
        rw [if_pos k3] at v6
        have v6 := inV_is.1 v6
        rw [wrap_id (by omega), wrap_id (by omega)]
      · rw [if_neg k1, if_neg k2, if_neg k3, if_pos k4, wrap_id (by omega), wrap_id (by omega)]
      · rw [if_neg k1, if_neg k2, if_neg k3, if_neg k4]
    · refine Ok.ite (fun k1 => Ok.ite (fun k2 => Ok.s ?_) (fun k2 => hJ _ ⟨rfl, by omega⟩)) (fun k1 => hJ _ ⟨rfl, by omega⟩)
      unfold answerQ
      rw [if_pos k1, if_pos k2]
  · refine Ok.oe (check_is hb h) (Ok.cnd (fun g1 => Ok.oe valid_is (Ok.cnd (fun g2 => hJ _ ⟨rfl, g1, g2⟩) (fun g2 => Ok.s ?_))) (fun g1 => Ok.s ?_))
    · unfold answerV; rw [if_pos (.inr g2)]; rfl
    · unfold answerV; rw [if_pos (.inl g1)]; rfl
end
end Go.Proofs.YtfhcigjkfelnfaaGreat
/-
  Pages on their way: what the reference's answers compute; pages compared.
-/
set_option maxRecDepth 100000
set_option linter.unusedVariables false
set_option linter.unusedSimpArgs false
namespace Go.Proofs.YtfhcigjkfelnfaaGreat
open Go AM
section
variable {n : Nat} {c : D.Config} {b : D.Book} {p q : D.Page} {now : Int} {a : D.Answer}
theorem valid28_is : r28_Valid 1000 a = some (validV a) := by
  refine Ok.eq ?_
  unfold r28_Valid
  refine Ok.j (Ok.oe rin (Ok.cnd (fun h1 => Ok.oe rin (Ok.cnd (fun h2 => Ok.oe rin (Ok.cnd (fun h3 => Ok.oe rin (Ok.cnd (fun h4 => ?_) (fun h4 => Ok.s ?_))) (fun h3 => Ok.s ?_))) (fun h2 => Ok.s ?_))) (fun h1 => Ok.s ?_)))
  · dsimp only
    refine Ok.join (fun y => y.1.1 = a.Kind ∧ y.1.2.1 = decide (a.Kind = 1 ∨ a.Kind = 2 ∨ a.Kind = 5) ∧ y.2 = (a, ())) (fun y hy => ?_) (fun J hJ => ?_)
    · obtain ⟨⟨k, z, ⟨⟩⟩, r⟩ := y
      obtain ⟨e1, e2, e3⟩ := hy
      dsimp only at e1 e2 e3
      subst e3; subst e1
      dsimp only
      refine Ok.cnd (fun g => Ok.s ?_) (fun g => Ok.ite (fun k3 => Ok.oe rin (Ok.s ?_)) (fun k3 => Ok.ite (fun k4 => Ok.oe rin (Ok.s ?_)) (fun k4 => Ok.s ?_)))
      · rw [e2] at g
        have g := of_decide_eq_true g
        have hk : inV a.Kind 1 5 = true := inV_is.2 (by omega)
        unfold validV
        rw [if_neg (by omega), if_neg (by omega), h1, h2, h3, h4, hk]; rfl
      · have hk : inV a.Kind 1 5 = true := inV_is.2 (by omega)
        unfold validV
        rw [if_pos k3, h1, h2, h3, h4, hk]; rfl
      · have hk : inV a.Kind 1 5 = true := inV_is.2 (by omega)
        unfold validV
        rw [if_neg k3, if_pos k4, h1, h2, h3, h4, hk]; rfl
      · rw [e2] at g
        have g := of_decide_eq_false g
        have hk : inV a.Kind 1 5 = false := Bool.eq_false_iff.2 fun h => by have := inV_is.1 h; omega
        unfold validV
        rw [hk]; simp
    · refine Ok.ite (fun g1 => hJ _ ⟨rfl, ?_, rfl⟩) (fun g1 => Ok.ite (fun g2 => hJ _ ⟨rfl, ?_, rfl⟩) (fun g2 => hJ _ ⟨rfl, ?_, rfl⟩))
      all_goals exact decide_eq_decide.2 (by omega)
  · unfold validV; rw [h4]; simp
  · unfold validV; rw [h3]; simp
  · unfold validV; rw [h2]; simp
  · unfold validV; rw [h1]; simp
theorem refused29_is (hf : CkF b p) : r29_refused 1000 p a = some (refusedV p a) := by
  have hs1 := hf.seen; have hs2 := hf.snoozes; have hs3 := hf.hands; have hs4 := hf.starts
  refine Ok.eq ?_
  unfold r29_refused
  refine Ok.oe due29_is ?_
  rcases hdv : dueV p with ⟨da, dd⟩
  dsimp only
  refine Ok.j (Ok.ite (fun g1 => Ok.s ?_) (fun g1 => Ok.cnd (fun g2 => Ok.ite (fun g3 => Ok.s ?_) (fun g3 => ?_)) (fun g2 => ?_)))
  · unfold refusedV; rw [if_pos (.inl g1)]
  · unfold refusedV; rw [if_pos (.inr (by unfold waitB; rw [hdv, g2]; simp; omega))]
  all_goals
    have hw : waitB p a.At = false := by
      unfold waitB
      rw [hdv, g2]
      first | rfl | (simp; omega)
    unfold refusedV
    rw [if_neg (by rw [hw]; simp; omega)]
    refine Ok.join (fun y => y.1.1 = decide (p.State = 4 ∨ (p.State = 3 ∧ a.Kind ≠ 5) ∨ (p.State = 1 ∧ a.Kind = 2)) ∧ y.2 = (p, a, ())) (fun y hy => ?_) (fun J hJ => ?_)
    · obtain ⟨⟨s2, ⟨⟩⟩, r⟩ := y
      obtain ⟨k2, k3⟩ := hy
      dsimp only at k2 k3
      subst k3
      dsimp only
      refine Ok.cnd (fun g3 => Ok.s ?_) (fun g3 => ?_)
      · rw [k2] at g3; rw [if_pos (of_decide_eq_true g3)]
      · rw [k2] at g3; rw [if_neg (of_decide_eq_false g3)]
        refine Ok.join (fun y => y.1.1 = decide (p.Seen.length = 64 ∨ (a.Kind = 3 ∧ p.Snoozes = 4) ∨ (a.Kind = 4 ∧ (p.Hands = 4 ∨ p.Starts.length = 200)))) (fun y hy => ?_) (fun J hJ => ?_)
        · obtain ⟨⟨s3, ⟨⟩⟩, ⟨⟩⟩ := y
          dsimp only at hy ⊢
          refine Ok.cnd (fun g4 => Ok.s ?_) (fun g4 => Ok.s ?_)
          · rw [hy] at g4; rw [if_pos (of_decide_eq_true g4)]
          · rw [hy] at g4; rw [if_neg (of_decide_eq_false g4)]
        · refine Ok.ite (fun g4 => hJ _ ?_) (fun g4 => Ok.ite (fun g5 => Ok.ite (fun g6 => hJ _ ?_) (fun g6 => Ok.ite (fun g7 => Ok.ite (fun g8 => hJ _ ?_) (fun g8 => Ok.ite (fun g9 => hJ _ ?_) (fun g9 => hJ _ ?_))) (fun g7 => hJ _ ?_))) (fun g5 => Ok.ite (fun g7 => Ok.ite (fun g8 => hJ _ ?_) (fun g8 => Ok.ite (fun g9 => hJ _ ?_) (fun g9 => hJ _ ?_))) (fun g7 => hJ _ ?_)))
          all_goals (dsimp only; first | exact (decide_eq_true (by omega)).symm | exact (decide_eq_false (by omega)).symm | exact decide_eq_decide.2 (by omega))
    · refine Ok.ite (fun g3 => hJ _ ⟨?_, rfl⟩) (fun g3 => Ok.ite (fun g4 => Ok.ite (fun g5 => hJ _ ⟨?_, rfl⟩) (fun g5 => Ok.ite (fun g6 => Ok.ite (fun g7 => hJ _ ⟨?_, rfl⟩) (fun g7 => hJ _ ⟨?_, rfl⟩)) (fun g6 => hJ _ ⟨?_, rfl⟩))) (fun g4 => Ok.ite (fun g6 => Ok.ite (fun g7 => hJ _ ⟨?_, rfl⟩) (fun g7 => hJ _ ⟨?_, rfl⟩)) (fun g6 => hJ _ ⟨?_, rfl⟩)))
      all_goals (dsimp only; first | exact (decide_eq_true (by omega)).symm | exact (decide_eq_false (by omega)).symm | exact decide_eq_decide.2 (by omega))
theorem with25_plus {l : List Int} {x : Int} (hl : l.length ≤ 400) (h : Asc l) : r25_With 1000 l x = some (plusV l x) := by
  rw [withR hl]
  congr 1
  exact asc_ext (withV_is h).1 (plusV_is h).1 fun z => by rw [(withV_is h).2, (plusV_is h).2]
theorem answer29_is (hb : BookOK b) (h : PageLen p) : r29_Answer 1000 c b p a = some (answerV b p a) := by
  have hse := h.se; have hst := h.st; have hde := h.de
  refine Ok.eq ?_
  unfold r29_Answer
  refine Ok.join (fun y => y = ((), p, a, page0, ()) ∧ checkV b p = true ∧ validV a = true) (fun y hy => ?_) (fun J hJ => ?_)
  · obtain ⟨rfl, hc, hv⟩ := hy
    dsimp only
    unfold answerV
    rw [if_neg (by rw [hc, hv]; simp)]
    have hf := checkV_facts hc
    have hv' := hv
    unfold validV at hv'
    simp only [Bool.and_eq_true, inV_is] at hv'
    obtain ⟨⟨⟨⟨⟨v1, v2⟩, v3⟩, v4⟩, v5⟩, v6⟩ := hv'
    have hsn := hf.snoozes; have hha := hf.hands
    refine Ok.ite (fun g1 => Ok.s ?_) (fun g1 => ?_)
    · rw [if_pos g1]; rfl
    rw [if_neg g1]
    refine Ok.oe (copy29_is h) (Ok.oe (has25_is (by omega)) (Ok.cnd (fun g2 => Ok.s ?_) (fun g2 => ?_)))
    · rw [if_pos g2]
    rw [if_neg (by rw [g2]; simp)]
    refine Ok.oe (refused29_is hf) (Ok.ite (fun g3 => Ok.s ?_) (fun g3 => ?_))
    · rw [if_pos g3]; rfl
    rw [if_neg g3]
    refine Ok.lec (by simp; omega) (Ok.j ?_)
    unfold answerQ
    refine Ok.ite (fun k1 => Ok.ite (fun k2 => Ok.s ?_) (fun k2 => Ok.s ?_)) (fun k1 => Ok.ite (fun k2 => ?_) (fun k2 => Ok.ite (fun k3 => Ok.s ?_) (fun k3 => Ok.ite (fun k4 => Ok.lec (by simp; omega) (Ok.s ?_)) (fun k4 => Ok.ite (fun k5 => Ok.s ?_) (fun k5 => absurd v5 (by omega))))))
    · rw [if_pos k1, if_pos k2]
    · rw [if_pos k1, if_neg k2]
    · rw [if_neg k1, if_pos k2]
      have hcl := called_len h
      refine Ok.oe (called29_is h) ?_
      refine Ok.join (fun y => y = ((calledV p, ()), p, a, page0, (p.ID, p.Policy, p.Start, p.Next, p.Due, p.State, p.By, p.Until, a.At, p.Snoozes, p.Hands, declQ p a, ()), p.Starts, p.Seen ++ [a.ID], ())) (fun y hy => ?_) (fun J hJ => ?_)
      · subst hy
        dsimp only
        have hdl : (declQ p a).length ≤ 900 := by
          unfold declQ plusV
          split
          · have h1 := List.length_filter_le (fun z => decide (z < a.Person)) p.Declined
            have h2 := List.length_filter_le (fun z => decide (a.Person < z)) p.Declined
            simp only [List.length_append, List.length_cons]; omega
          · omega
        obtain ⟨aD, haD⟩ : ∃ aD : Nat → Bool, ∀ i, aD i = (decide ((0 : Int) < (((calledV p).length : Nat) : Int)) && ((calledV p).take i).all fun z => (declQ p a).contains z) := ⟨fun i => _, fun i => rfl⟩
        have hall : ∀ i, i < (calledV p).length → aD (i + 1) = (aD i && (declQ p a).contains (nth (calledV p) i)) := fun i hi => by
          rw [haD, haD, ← take_snoc' hi, List.all_append, Bool.and_assoc]
          simp
        have hlast : allDown p a = aD (calledV p).length := by
          rw [haD, List.take_length]
          unfold allDown
          congr 1
          refine decide_eq_decide.2 ⟨fun hne => by have := List.length_pos_iff.2 hne; omega, fun hpos e => by rw [e] at hpos; simp at hpos⟩
        refine Ok.run2 (calledV p).length (fun i => (calledV p, aD i, (i : Int), ())) (by rw [haD]; simp) (by omega) (fun i hi k hk => ?_) (fun k => ?_)
        · dsimp only at hk ⊢
          rw [hall i hi] at hk
          refine Ok.p (by omega) (Ok.j (Ok.cnd (fun g => Ok.atn hi (Ok.oe (has25_is hdl) (Ok.cnd (fun g' => ?_) (fun g' => ?_)))) (fun g => ?_)))
          · dsimp only
            rw [wrap_succ (by omega)]
            rw [g, g'] at hk; exact hk
          · dsimp only
            rw [wrap_succ (by omega)]
            rw [g, g'] at hk; exact hk
          · dsimp only
            rw [wrap_succ (by omega)]
            rw [g] at hk; exact hk
        · dsimp only
          rw [hlast]
          refine Ok.n (by omega) (Ok.cnd (fun g => Ok.ite (fun g0 => Ok.s ?_) (fun g0 => Ok.s ?_)) (fun g => Ok.s ?_))
          · rw [if_pos ⟨g, g0⟩]
          · rw [if_neg (fun hx => g0 hx.2)]
          · rw [if_neg (by rw [g]; simp)]
      · refine Ok.oe (has25_is (by omega)) (Ok.cnd (fun g4 => ?_) (fun g4 => ?_))
        · have hd := (setV_is.1 hf.declined).1
          refine Ok.oe (with25_plus (by omega) hd) (hJ _ ?_)
          have : declQ p a = plusV p.Declined a.Person := by unfold declQ; rw [if_pos g4]
          rw [this]
        · refine hJ _ ?_
          have : declQ p a = p.Declined := by unfold declQ; rw [if_neg (by rw [g4]; simp)]
          rw [this]
    · rw [if_neg k1, if_neg k2, if_pos k3]
      rw [if_pos k3] at v6
      have v6 := inV_is.1 v6
      rw [wrap_id (by omega), wrap_id (by omega)]
    · rw [if_neg k1, if_neg k2, if_neg k3, if_pos k4, wrap_id (by omega), wrap_id (by omega)]
    · rw [if_neg k1, if_neg k2, if_neg k3, if_neg k4]
  · refine Ok.oe (check29_is hb h) (Ok.cnd (fun g1 => Ok.oe valid28_is (Ok.cnd (fun g2 => hJ _ ⟨rfl, g1, g2⟩) (fun g2 => Ok.s ?_))) (fun g1 => Ok.s ?_))
    · unfold answerV; rw [if_pos (.inr g2)]; rfl
    · unfold answerV; rw [if_pos (.inl g1)]; rfl
theorem sameS_refl {l : List D.Start} (hl : l.length ≤ 900) (h : ∀ s ∈ l, s.People.length ≤ 900) : r29_SameStarts 1000 l l = some true := by
  refine Ok.eq ?_
  unfold r29_SameStarts
  refine Ok.n (by simp) (Ok.run l.length (fun i => ((l, l, (i : Int), ()), ())) rfl (by omega) (fun i hi k hk => ?_) (fun k => Ok.n (by omega) (Ok.s rfl)))
  dsimp only
  have hs := h _ (nth_mem hi)
  refine Ok.p (by omega) (Ok.j (Ok.atn hi (Ok.atn hi (Ok.n (by simp) (Ok.atn hi (Ok.atn hi (Ok.n (by simp) (Ok.atn hi (Ok.atn hi (Ok.oe (same_is hs) ?_))))))))))
  rw [decide_eq_true rfl]
  refine Ok.t ?_
  dsimp only
  rw [wrap_succ (by omega)]
  exact hk
theorem sameP_refl (h : PageLen p) : r29_Same 1000 p p = some true := by
  have h1 := h.st; have h2 := h.de; have h3 := h.se
  unfold r29_Same
  rw [sameS_refl (by omega) (fun s hs => by have := (h.pe s hs).1; omega), same_is (by omega), same_is (by omega)]
  simp only [decide_true, AM.cnd, AM.optc]
end
end Go.Proofs.YtfhcigjkfelnfaaGreat
/-
  What else is kept of made pages: who declined, which answers were seen. Plain Lean.
-/
set_option maxRecDepth 100000
set_option linter.unusedVariables false
set_option linter.unusedSimpArgs false
namespace Go.Proofs.YtfhcigjkfelnfaaGreat
open Go AM
section
variable {n : Nat} {c : D.Config} {b : D.Book} {p q : D.Page} {now k M : Int} {a : D.Answer} {Q : Int → D.Start → Prop}
structure PgX (k : Int) (p : D.Page) : Prop where
  decl : ∀ x ∈ p.Declined, x < 4
  seen : ∀ x ∈ p.Seen, 1 ≤ x ∧ x ≤ k
theorem PgX.mono {k' : Int} (h : PgX k p) (hk : k ≤ k') : PgX k' p := ⟨h.decl, fun x hx => ⟨(h.seen x hx).1, Int.le_trans (h.seen x hx).2 hk⟩⟩
theorem PgX.step (h : PgX k p) : PgX k (stepQ c b p) := by
  unfold stepQ
  split
  · exact ⟨h.decl, h.seen⟩
  · split
    · exact ⟨h.decl, h.seen⟩
    · exact ⟨by simp, h.seen⟩
theorem PgX.run (h : PgX k p) (hb : BookOK b) (hQ : StepQ Q M c b) (hi : PageInv Q M b p) : PgX k (runV c b p now).1 :=
  runV_ind hb hQ (fun q _ _ hr => hr.step) hi h
theorem plusV_mem {l : List Int} {x z : Int} (h : z ∈ plusV l x) : z ∈ l ∨ z = x := by
  unfold plusV at h
  rcases List.mem_append.1 h with h | h
  · exact .inl (List.mem_filter.1 h).1
  · rcases List.mem_cons.1 h with h | h
    · exact .inr h
    · exact .inl (List.mem_filter.1 h).1
theorem PgX.answer (h : PgX k p) (ha : a.Person < 4) (hi : 1 ≤ a.ID ∧ a.ID ≤ k) : PgX k (answerQ p a) := by
  have hs : ∀ x ∈ p.Seen ++ [a.ID], 1 ≤ x ∧ x ≤ k := mem_snoc h.seen hi
  have hd : ∀ x ∈ declQ p a, x < 4 := by
    unfold declQ
    split
    · intro x hx
      rcases plusV_mem hx with hx | rfl
      · exact h.decl x hx
      · exact ha
    · exact h.decl
  unfold answerQ
  split
  · split
    · exact ⟨h.decl, hs⟩
    · exact ⟨h.decl, hs⟩
  · split
    · exact ⟨hd, hs⟩
    · split
      · exact ⟨h.decl, hs⟩
      · split
        · exact ⟨by simp, hs⟩
        · exact ⟨h.decl, hs⟩
theorem PgX.dlen (h : PgX k p) (hi : setV p.Declined = true) : p.Declined.length ≤ 4 := by
  have hs := setV_is.1 hi
  exact asc4_len hs.1 fun z hz => ⟨(hs.2 z hz).1, h.decl z hz⟩
theorem PgX.new {id pol start : Int} : PgX k (newP id pol start) := ⟨by simp [newP], by simp [newP]⟩
theorem PgX.notin {x : Int} (h : PgX k p) (hx : k < x) : p.Seen.contains x = false := by
  cases hb : p.Seen.contains x with
  | false => rfl
  | true => have := h.seen x (List.contains_iff_mem.1 hb); omega
end
end Go.Proofs.YtfhcigjkfelnfaaGreat
/-
  How the statements begin: light inputs, dice.
-/
set_option linter.unusedVariables false
namespace Go.Proofs.YtfhcigjkfelnfaaGreat
open Go AM
theorem light_is {t : List Int} : made_Light 1000 t = some (decide (((t.length : Nat) : Int) ≤ 500)) := rfl
theorem roll_is {t : List Int} : made_Roll 1000 t = some ⟨t, 0⟩ := rfl
theorem dice0 {t : List Int} : DiceOK t ⟨t, 0⟩ := ⟨rfl, Int.le_refl _, by dsimp only; omega⟩
theorem light_len {t : List Int} (h : decide (((t.length : Nat) : Int) ≤ 500) = true) : t.length ≤ 500 := by have := of_decide_eq_true h; omega
end Go.Proofs.YtfhcigjkfelnfaaGreat
/-
  Pages and answers that are made by dice: what holds of them.
-/
set_option maxRecDepth 100000
set_option linter.unusedVariables false
set_option linter.unusedSimpArgs false
namespace Go.Proofs.YtfhcigjkfelnfaaGreat
open Go AM
attribute [local irreducible] dueV stepV runV checkV answerV
section
variable {n : Nat} {c : D.Config} {b : D.Book} {p q : D.Page} {now k M : Int} {a : D.Answer} {Q : Int → D.Start → Prop} {L : List Int} {d : D.Dice}
structure AnsOK (a : D.Answer) : Prop where
  pers : -1 ≤ a.Person ∧ a.Person < 4
  kind : 1 ≤ a.Kind ∧ a.Kind ≤ 5
  arg3 : a.Kind = 3 → 1 ≤ a.Arg ∧ a.Arg ≤ 5000
  arg4 : a.Kind = 4 → 0 ≤ a.Arg ∧ a.Arg < 4
  arg0 : a.Kind ≠ 3 → a.Kind ≠ 4 → a.Arg = 0
theorem AnsOK.valid (h : AnsOK a) (h1 : 1 ≤ a.ID ∧ a.ID ≤ 999999) (h2 : 1 ≤ a.Page ∧ a.Page ≤ 999999) (h3 : 0 ≤ a.At ∧ a.At ≤ 8589934592) : validV a = true := by
  have hp := h.pers; have hk := h.kind
  unfold validV
  rw [inV_is.2 h1, inV_is.2 h2, inV_is.2 (show -1 ≤ a.Person ∧ a.Person ≤ 31 by omega), inV_is.2 h3, inV_is.2 hk]
  simp only [Bool.true_and]
  split
  · rename_i k3; have := h.arg3 k3; exact inV_is.2 (by omega)
  · split
    · rename_i k4; have := h.arg4 k4; exact inV_is.2 (by omega)
    · rename_i k3 k4; exact decide_eq_true (h.arg0 k3 k4)
theorem answer_ok {id page at_ : Int} (hL : L.length ≤ 500) (hd : DiceOK L d) : Ok (made_Dice_Answer 1000 d id page at_) fun r => DiceOK L r.2 ∧ AnsOK r.1 ∧ r.1.ID = id ∧ r.1.Page = page ∧ r.1.At = at_ := by
  unfold made_Dice_Answer
  refine Ok.opt (nx hL hd (by omega) (by omega)) fun ⟨a0, d1⟩ ⟨h1, l1, u1⟩ => ?_
  dsimp only at h1 l1 u1 ⊢
  refine Ok.opt (nx hL h1 (by omega) (by omega)) fun ⟨a2, d3⟩ ⟨h3, l3, u3⟩ => ?_
  dsimp only at h3 l3 u3 ⊢
  rw [wrap_id (x := 1 + a2) (by omega), wrap_id (x := a0 - 1) (by omega)]
  refine Ok.j (Ok.ite (fun g => ?_) (fun g => Ok.ite (fun g' => ?_) (fun g' => ?_)))
  · refine Ok.opt (one_ok hL h3 (by simp) (by simp)) fun ⟨a8, d9⟩ ⟨h9, m9⟩ => Ok.s ⟨h9, ⟨by dsimp only; omega, by dsimp only; omega, fun _ => ?_, fun e => ?_, fun e => absurd g e⟩, rfl, rfl, rfl⟩
    · dsimp only at m9 ⊢
      simp only [List.mem_cons, List.not_mem_nil, or_false] at m9
      omega
    · dsimp only at e; omega
  · refine Ok.opt (nx hL h3 (by omega) (by omega)) fun ⟨a10, d11⟩ ⟨h11, l11, u11⟩ => Ok.s ⟨h11, ⟨by dsimp only; omega, by dsimp only; omega, fun e => ?_, fun _ => ⟨l11, u11⟩, fun _ e => absurd g' e⟩, rfl, rfl, rfl⟩
    dsimp only at e; omega
  · exact Ok.s ⟨h3, ⟨by dsimp only; omega, by dsimp only; omega, fun e => absurd e g, fun e => absurd e g', fun _ _ => rfl⟩, rfl, rfl, rfl⟩
theorem runV_pair (hb : BookOK b) (hQ : StepQ Q M c b) (h : PageInv Q M b p) (now : Int) : ∃ q, runV c b p now = (q, 0) ∧ PageInv Q M b q ∧ waitB q now = false ∧ Kept p q := by
  have h1 := runV_inv (now := now) hb hQ h
  have h2 := runV_kept (now := now) hb hQ h
  rcases hr : runV c b p now with ⟨q, e⟩
  rw [hr] at h1 h2
  obtain ⟨a1, a2, a3⟩ := h1
  dsimp only at a1 a2 a3 h2
  subst a2
  exact ⟨q, rfl, a1, a3, h2⟩
theorem runV_pairL (hb : BookOK b) (hQ : StepQ Q M c b) (h : PageInv Q M b p) (hx : PgX k p) (hl : p.Last ≤ now) : ∃ q, runV c b p now = (q, 0) ∧ PageInv Q M b q ∧ waitB q now = false ∧ Kept p q ∧ PgX k q ∧ q.Last ≤ now := by
  obtain ⟨q, h1, h2, h3, h4⟩ := runV_pair hb hQ h now
  have h5 := hx.run (now := now) hb hQ h
  have h6 := runV_last (now := now) hb hQ h hl
  rw [h1] at h5 h6
  exact ⟨q, h1, h2, h3, h4, h5, h6⟩
theorem answerV_pair (hb : BookOK b) (h : PageInv Q M b p) (hx : PgX k p) (hv : validV a = true) (hp : a.Page = p.ID) (ha : a.At ≤ M - 20000) (hs : a.Kind = 3 → a.Arg ≤ 5000) (hpe : a.Person < 4) (hk : 1 ≤ a.ID ∧ a.ID ≤ k) (hl : p.Last ≤ a.At) :
    ((answerV b p a).2 ≠ 0) ∨ ∃ q, answerV b p a = (q, 0) ∧ PageInv Q M b q ∧ PgX k q ∧ q.Last ≤ a.At ∧ q.ID = p.ID ∧ q.Policy = p.Policy ∧ q.Start = p.Start ∧ q.Next = p.Next := by
  by_cases hse : p.Seen.contains a.ID = true
  · exact .inr ⟨p, answerV_old (h.check hb) hv hp hse, h, hx, hl, rfl, rfl, rfl, rfl⟩
  · have hse : p.Seen.contains a.ID = false := by simpa using hse
    rw [answerV_new (h.check hb) hv hp hse]
    by_cases hr : refusedV p a = 0
    · rw [if_neg (by simp [hr])]
      exact .inr ⟨_, rfl, h.answerQ_inv hb hv ha hs hse hr, hx.answer hpe hk, answerQ_last hl, answerQ_id⟩
    · rw [if_pos hr]; exact .inl hr
structure MadeP (c : D.Config) (b : D.Book) (p : D.Page) (now : Int) : Prop where
  inv : PageInv (QP c b) 1000000 b p
  x : PgX 9 p
  last : p.Last ≤ now
  id : p.ID ≤ 3
  lo : 864000 ≤ now
  hi : now ≤ 880000
theorem page_ok {k : Int} (hL : L.length ≤ 500) (hd : DiceOK L d) (hc : CfgOK n c) (hn : n ≤ 48) (hb : BookOK b) (hk : 0 ≤ k ∧ k ≤ 6) :
    Ok (made_Dice_Page 1000 d c b k) fun r => DiceOK L r.2.2 ∧ MadeP c b r.1 r.2.1 := by
  have hpl := hb.plen
  unfold made_Dice_Page
  refine Ok.opt (one_ok hL hd (by simp) (by simp)) fun ⟨a0, d1⟩ ⟨h1, m1⟩ => ?_
  dsimp only at h1 m1 ⊢
  simp only [List.mem_cons, List.not_mem_nil, or_false] at m1
  refine Ok.opt (nx hL h1 (by omega) (by omega)) fun ⟨a2, d3⟩ ⟨h3, l3, u3⟩ => ?_
  dsimp only at h3 l3 u3 ⊢
  refine Ok.opt (nx hL h3 (by omega) (by omega)) fun ⟨a4, d5⟩ ⟨h5, l5, u5⟩ => ?_
  dsimp only at h5 l5 u5 ⊢
  rw [wrap_id (x := 1 + a2) (by omega), wrap_id (x := 864000 + a0) (by omega)]
  have hnew : newV b (1 + a2) a4 (864000 + a0) = (newP (1 + a2) a4 (864000 + a0), 0) := by
    unfold newV
    rw [if_pos ⟨inV_is.2 (by omega), inV_is.2 (by omega)⟩, if_pos (inV_is.2 (by omega))]
  refine Ok.oe (new29_is hb) ?_
  rw [hnew]
  dsimp only
  refine Ok.n (by simp) ?_
  rw [wrap_id (x := k + 1) (by omega)]
  refine Ok.opt (nx hL h5 (by omega) (by omega)) fun ⟨a8, d9⟩ ⟨h9, l9, u9⟩ => ?_
  dsimp only at h9 l9 u9 ⊢
  refine Ok.loop (fun m x => ∃ (now i : Int) (d : D.Dice) (p : D.Page), x = ((now, i, ()), d, c, b, page0, p, ()) ∧ DiceOK L d ∧ PageInv (QP c b) 1000000 b p ∧ PgX 9 p ∧ p.Last ≤ now ∧ p.ID ≤ 3 ∧ 864000 ≤ now ∧ now + 2000 * i ≤ 880000 ∧ 0 ≤ i ∧ m = i.toNat) (m := a8.toNat) (by omega)
    ⟨864000 + a0, a8, d9, _, rfl, h9, new_inv (by omega) hb (by omega) (by omega) (by omega), .new, Int.le_refl _, by show 1 + a2 ≤ 3; omega, by omega, by omega, l9, rfl⟩ ?_
  rintro m x ⟨now, i, d, p, rfl, i1, i2, i3, i4, i5, i6, i7, i8, rfl⟩ K hK
  dsimp only
  refine Ok.ite (fun hi => ?_) (fun hi => Ok.s ⟨i1, i2, i3, i4, i5, i6, by dsimp only; omega⟩)
  refine Ok.j (Ok.opt (one_ok hL i1 (by simp) (by simp)) fun ⟨a26, d27⟩ ⟨h27, m27⟩ => ?_)
  dsimp only at h27 m27 ⊢
  simp only [List.mem_cons, List.not_mem_nil, or_false] at m27
  obtain ⟨t, ht⟩ : ∃ t, now + a26 = t := ⟨_, rfl⟩
  rw [wrap_id (x := now + a26) (by omega), ht]
  obtain ⟨q, r1, r2, r3, r4, r5, r6⟩ := runV_pairL (now := t) hb QP.step i2 i3 (by omega)
  refine Ok.join (fun y => ∃ (d : D.Dice) (p : D.Page), y = ((t, i, ()), d, c, b, page0, p, ()) ∧ DiceOK L d ∧ PageInv (QP c b) 1000000 b p ∧ PgX 9 p ∧ p.Last ≤ t ∧ p.ID ≤ 3) (fun y hy => ?_) (fun J hJ => ?_)
  · obtain ⟨d, p, rfl, j1, j2, j3, j4, j5⟩ := hy
    dsimp only
    refine Ok.opt (nx hL j1 (by omega) (by omega)) fun ⟨a35, d36⟩ ⟨h36, l36, u36⟩ => ?_
    dsimp only at h36 l36 u36 ⊢
    rw [wrap_id (x := 1 + a35) (by omega)]
    refine Ok.opt (answer_ok hL h36) fun ⟨a, d38⟩ ⟨h38, ha, e1, e2, e3⟩ => ?_
    dsimp only at h38 ha e1 e2 e3 ⊢
    have hv : validV a = true := ha.valid (by omega) (by have := j2.id; omega) (by omega)
    refine Ok.oe (answer29_is hb (j2.plen hb)) ?_
    have fin : ∀ (d : D.Dice) (p : D.Page), DiceOK L d → PageInv (QP c b) 1000000 b p → PgX 9 p → p.Last ≤ t → p.ID ≤ 3 → Ok (K ((t, IntKind.wrap .i64 (i - 1), ()), d, c, b, page0, p, ())) fun r => DiceOK L r.2.2 ∧ MadeP c b r.1 r.2.1 := fun d p f1 f2 f3 f4 f5 => by
      rw [wrap_id (by omega)]
      exact hK (i - 1).toNat _ (by omega) ⟨t, i - 1, d, p, rfl, f1, f2, f3, f4, f5, by omega, by omega, by omega, rfl⟩
    rcases answerV_pair (a := a) hb j2 j3 hv e2 (by omega) (fun e => (ha.arg3 e).2) ha.pers.2 (by omega) (by omega) with hne | ⟨q', e, g1, g2, g3, g4, _⟩
    · rcases hav : answerV b p a with ⟨q', er⟩
      rw [hav] at hne
      exact Ok.n hne (fin _ _ h38 j2 j3 j4 j5)
    · rw [e]
      dsimp only
      refine Ok.p rfl (Ok.opt (nx hL h38 (by omega) (by omega)) fun ⟨a41, d42⟩ ⟨h42, _⟩ => ?_)
      exact Ok.ite (fun _ => fin _ _ h42 g1 g2 (by omega) (by omega)) (fun _ => fin _ _ h42 j2 j3 j4 j5)
  · refine Ok.oe (run29_is hc hn hb (i2.plen hb)) ?_
    rw [r1]
    dsimp only
    refine Ok.p rfl (Ok.opt (nx hL h27 (by omega) (by omega)) fun ⟨a46, d47⟩ ⟨h47, _⟩ => ?_)
    exact Ok.ite (fun _ => hJ _ ⟨_, _, rfl, h47, r2, r5, r6, by rw [r4.id]; exact i5⟩) (fun _ => hJ _ ⟨_, _, rfl, h47, i2, i3, by omega, i5⟩)
end
end Go.Proofs.YtfhcigjkfelnfaaGreat
/-
  The laws EscalateEnds and EscalateSplits, of what is reckoned of their code.
-/
set_option maxRecDepth 100000
set_option linter.unusedVariables false
set_option linter.unusedSimpArgs false
namespace Go.Proofs.YtfhcigjkfelnfaaGreat
open Go AM
attribute [local irreducible] dueV stepV runV checkV answerV
theorem sane29 : law29_sane 1000 = some true := by kernel_rfl
theorem tm_in {x n : Int} (h : 0 ≤ x) (hn : 1 ≤ n) : 0 ≤ Int.tmod x n ∧ Int.tmod x n < n := by
  rw [Int.tmod_eq_emod_of_nonneg h]
  exact ⟨Int.emod_nonneg _ (by omega), Int.emod_lt_of_pos _ (by omega)⟩
end Go.Proofs.YtfhcigjkfelnfaaGreat
/-
  The laws EscalateRests and EscalateDeclines, of what is reckoned of their code.
-/
set_option maxRecDepth 100000
set_option linter.unusedVariables false
set_option linter.unusedSimpArgs false
namespace Go.Proofs.YtfhcigjkfelnfaaGreat
open Go AM
attribute [local irreducible] dueV stepV runV checkV answerV
theorem answerV_two {b : D.Book} {q : D.Page} {a : D.Answer} (h : answerV b q a = if refusedV q a ≠ 0 then (page0, refusedV q a) else (answerQ q a, 0)) {x : D.Page} {e : Int} (hx : answerV b q a = (x, e)) :
    (e ≠ 0 ∧ e = refusedV q a) ∨ (e = 0 ∧ x = answerQ q a ∧ refusedV q a = 0) := by
  rw [h] at hx
  by_cases hr : refusedV q a = 0
  · rw [if_neg (by simp [hr])] at hx
    exact .inr ⟨(Prod.mk.inj hx).2.symm, (Prod.mk.inj hx).1.symm, hr⟩
  · rw [if_pos hr] at hx
    have := (Prod.mk.inj hx).2
    exact .inl ⟨by omega, this.symm⟩
theorem escalateRests_true (t : List Int) (n : Int) (hn : 0 ≤ n ∧ n ≤ 65535) : law29_EscalateRests 1000 t n = some true := by
  refine Ok.eq ?_
  unfold law29_EscalateRests
  refine Ok.oe light_is (Ok.ncnd (fun _ => Ok.oe sane29 (Ok.s rfl)) fun hl => Ok.oe roll_is ?_)
  have hL := light_len hl
  refine Ok.opt (crew_ok hL dice0 (by omega)) fun ⟨c, d1⟩ ⟨h1, hc⟩ => ?_
  dsimp only at h1 hc ⊢
  refine Ok.opt (book_ok hL h1 (by omega)) fun ⟨b, d2⟩ ⟨h2, hb⟩ => ?_
  dsimp only at h2 hb ⊢
  refine Ok.opt (page_ok (k := 4) hL h2 hc (by omega) hb (by omega)) fun ⟨p, now, d3⟩ ⟨h3, hp⟩ => ?_
  dsimp only at h3 hp ⊢
  have hlo := hp.lo; have hhi := hp.hi
  obtain ⟨q, r1, r2, r3, r4, r5, r6⟩ := runV_pairL (now := now) hb QP.step hp.inv hp.x hp.last
  refine Ok.oe (run_is hc (by omega) hb (hp.inv.plen hb)) ?_
  rw [r1]
  dsimp only
  have tn := tm_in (n := 5000) hn.1 (by omega)
  refine Ok.n (by simp) (Ok.nzc (by omega) ?_)
  rw [wrap_id (x := n) (by omega), wrap_id (x := 1 + Int.tmod n 5000) (by omega)]
  obtain ⟨rest, hrest⟩ : ∃ r, 1 + Int.tmod n 5000 = r := ⟨_, rfl⟩
  have hr1 : 1 ≤ rest ∧ rest ≤ 5000 := by omega
  rw [hrest]
  have hid := r2.id
  have hdl := r5.dlen r2.declined
  obtain ⟨a, hA⟩ : ∃ a : D.Answer, a = D.Answer.mk 77 q.ID 0 3 rest now := ⟨_, rfl⟩
  rw [← hA]
  have hAok : AnsOK a := by
    subst hA
    exact ⟨by dsimp only; omega, by dsimp only; omega, fun _ => by dsimp only; omega, fun e => by simp at e, fun e => absurd rfl e⟩
  have hv : validV a = true := hAok.valid (by subst hA; dsimp only; omega) (by subst hA; exact hid) (by subst hA; dsimp only; omega)
  have hse : q.Seen.contains a.ID = false := by subst hA; exact r5.notin (show (9 : Int) < 77 by omega)
  have hav := answerV_new (a := a) (r2.check hb) hv (by subst hA; rfl) hse
  refine Ok.oe (answer_is hb (r2.plen hb) (by omega)) ?_
  obtain ⟨x, e, hxe⟩ : ∃ x e, answerV b q a = (x, e) := ⟨_, _, rfl⟩
  rw [hxe]
  dsimp only
  refine Ok.join (fun y => ∃ w, y = ((now, ()), c, b, q, w, ())) (fun y hy => ?_) (fun J hJ => ?_)
  · obtain ⟨w, rfl⟩ := hy
    dsimp only
    obtain ⟨a2, hA2⟩ : ∃ a : D.Answer, a = D.Answer.mk 78 q.ID 0 4 3 now := ⟨_, rfl⟩
    rw [← hA2]
    have hAok2 : AnsOK a2 := by
      subst hA2
      exact ⟨by dsimp only; omega, by dsimp only; omega, fun e => by simp at e, fun _ => by dsimp only; omega, fun _ e => absurd rfl e⟩
    have hv2 : validV a2 = true := hAok2.valid (by subst hA2; dsimp only; omega) (by subst hA2; exact hid) (by subst hA2; dsimp only; omega)
    have hse2 : q.Seen.contains a2.ID = false := by subst hA2; exact r5.notin (show (9 : Int) < 78 by omega)
    have hav2 := answerV_new (a := a2) (r2.check hb) hv2 (by subst hA2; rfl) hse2
    refine Ok.oe (answer_is hb (r2.plen hb) (by omega)) ?_
    obtain ⟨x2, e2, hxe2⟩ : ∃ x e, answerV b q a2 = (x, e) := ⟨_, _, rfl⟩
    rw [hxe2]
    dsimp only
    rcases answerV_two hav2 hxe2 with ⟨he, he'⟩ | ⟨he, rfl, hr⟩
    · have h59 := refused_59 (a := a2) (by rw [← he']; exact he) (by subst hA2; exact r6) (by subst hA2; exact r3)
      refine Ok.p he ?_
      rcases h59 with h | h
      · exact Ok.p (by omega) (Ok.oe sane29 (Ok.t (Ok.s rfl)))
      · exact Ok.n (by omega) (Ok.p (by omega) (Ok.oe sane29 (Ok.t (Ok.s rfl))))
    · have hQ2 : answerQ q a2 = { q with Seen := q.Seen ++ [78], Last := now, State := 0, Due := now + 600, Hands := q.Hands + 1, Declined := [], Starts := q.Starts ++ [⟨-1, now, [3]⟩] } := by subst hA2; rfl
      have hxi : PageInv (QP c b) 1000000 b (answerQ q a2) := r2.answerQ_inv hb hv2 (by subst hA2; dsimp only; omega) (by subst hA2; intro e; simp at e) hse2 hr
      have hcal : calledV (answerQ q a2) = [3] := called_snoc (l := q.Starts) (s := ⟨-1, now, [3]⟩) (by rw [hQ2])
      have hha := r2.hands
      have hh0 := (r2.len hb).2.2
      refine Ok.n (by omega) (Ok.oe due_is ?_)
      rw [dueV_fst0 (p := answerQ q a2) (by rw [hQ2])]
      dsimp only
      refine Ok.t (Ok.p (by rw [hQ2, wrap_id (by omega)]) (Ok.oe (called_is (hxi.plen hb)) ?_))
      rw [hcal]
      refine Ok.oe (same_is (by simp)) (Ok.p rfl (Ok.p (by rw [hQ2]) (Ok.p (by rw [hQ2, wrap_id (by omega)]) (Ok.oe sane29 (Ok.t (Ok.s rfl))))))
  · refine Ok.ite (fun he => ?_) (fun he => hJ _ ⟨_, rfl⟩)
    rcases answerV_two hav hxe with ⟨he', _⟩ | ⟨_, rfl, hr⟩
    · exact absurd he he'
    have hQx : answerQ q a = { q with Seen := q.Seen ++ [77], Last := now, State := 2, By := 0, Until := now + rest, Snoozes := q.Snoozes + 1 } := by subst hA; rfl
    have hxi : PageInv (QP c b) 1000000 b (answerQ q a) := r2.answerQ_inv hb hv (by subst hA; dsimp only; omega) (by subst hA; intro _; dsimp only; omega) hse hr
    have hs2 : (answerQ q a).State = 2 := by rw [hQx]
    have hun : (answerQ q a).Until = now + rest := by rw [hQx]
    rw [wrap_id (x := now + rest) (by omega), wrap_id (x := now + rest - 1) (by omega)]
    have hwf : waitB (answerQ q a) (now + rest - 1) = false := by rw [waitB_2 hs2, hun]; exact decide_eq_false (by omega)
    have hrun : runV c b (answerQ q a) (now + rest - 1) = (answerQ q a, 0) := runV_idle (hxi.check hb) hwf
    refine Ok.oe (run_is hc (by omega) hb (hxi.plen hb)) ?_
    rw [hrun]
    dsimp only
    have hdd : (dueV (answerQ q a)).2 = true := by rw [dueV_fst2 hs2]
    refine Ok.oe (step_is hc (by omega) hb (hxi.plen hb)) ?_
    rw [hxi.stepVis hb hdd]
    dsimp only
    have hst : stepQ c b (answerQ q a) = { answerQ q a with State := 0, Due := now + rest, Last := max (now + rest) (answerQ q a).Last } := by
      unfold stepQ; rw [if_pos hs2]; dsimp only; rw [hun]
    rw [hst]
    refine Ok.n (by simp) (Ok.n (by simp) (Ok.oe (sameP_refl (hxi.plen hb)) (Ok.t (Ok.n (fun h => h rfl) (Ok.n (fun h => h rfl) (Ok.n ?_ (Ok.n ?_ (hJ _ ⟨_, rfl⟩))))))))
    · rw [hQx]; simp
    · rw [hQx]; simp
end Go.Proofs.YtfhcigjkfelnfaaGreat
