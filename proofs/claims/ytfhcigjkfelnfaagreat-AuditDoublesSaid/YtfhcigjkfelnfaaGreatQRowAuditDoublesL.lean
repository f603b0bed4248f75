/-
  Pages on their way: what the reference's checks, steps, runs and answers compute.
-/
import Derived.Test.YtfhcigjkfelnfaaGreatQRowAuditDoublesK
set_option maxRecDepth 100000
set_option linter.unusedVariables false
set_option linter.unusedSimpArgs false
namespace Go.Proofs.YtfhcigjkfelnfaaGreat
open Go AM
attribute [local irreducible] dueV stepV runV checkV
section
variable {n : Nat} {c : D.Config} {b : D.Book} {p q : D.Page} {now : Int} {a : D.Answer}
theorem rin {fu : Nat} {x lo hi : Int} : r25_In fu x lo hi = some (inV x lo hi) := by
  unfold r25_In inV
  by_cases h1 : lo ≤ x <;> by_cases h2 : x ≤ hi <;> simp [AM.cnd, h1, h2]
theorem badS_t {l : List Int} {i : Nat} : badS l i = true ↔ ¬ (0 ≤ nth l i ∧ nth l i ≤ 31 ∧ (i = 0 ∨ nth l (i - 1) < nth l i)) := by
  unfold badS
  rw [Bool.not_eq_true', Bool.eq_false_iff]
  simp only [ne_eq, Bool.and_eq_true, Bool.or_eq_true, decide_eq_true_eq, and_assoc]
theorem badS_f {l : List Int} {i : Nat} : badS l i = false ↔ (0 ≤ nth l i ∧ nth l i ≤ 31 ∧ (i = 0 ∨ nth l (i - 1) < nth l i)) := by
  rw [← Bool.not_eq_true, badS_t, Decidable.not_not]
theorem set25_is {l : List Int} (hl : l.length < 900) : r25_Set 1000 l 32 = some (setV l) := by
  refine Ok.eq ?_
  unfold r25_Set
  refine Ok.scan l.length (fun i => ((l, 32, (i : Int), ()), ())) (badS l) rfl (by omega) (fun i hi hq _ k => ?_) (fun i hi hq k hk => ?_) (fun hq k => ?_)
  · have hb := badS_t.1 hq
    dsimp only
    rw [setV_bad hi hq]
    refine Ok.p (by omega) (Ok.j (Ok.atn hi (Ok.ite (fun h1 => Ok.s rfl) (fun h1 => Ok.atn hi (Ok.ite (fun h2 => Ok.s rfl) (fun h2 => ?_))))))
    have h0 : 0 < i := by omega
    refine Ok.p (by omega) ?_
    rw [show IntKind.wrap .i64 ((i : Int) - 1) = ((i - 1 : Nat) : Int) by rw [wrap_id (by omega)]; omega]
    exact Ok.atn (by omega) (Ok.atn hi (Ok.p (by omega) (Ok.s rfl)))
  · have hb := badS_f.1 hq
    dsimp only
    refine Ok.p (by omega) (Ok.j (Ok.atn hi (Ok.n (by omega) (Ok.atn hi (Ok.n (by omega) ?_)))))
    dsimp only
    rw [wrap_succ (by omega)]
    by_cases h0 : 0 < i
    · refine Ok.p (by omega) ?_
      rw [show IntKind.wrap .i64 ((i : Int) - 1) = ((i - 1 : Nat) : Int) by rw [wrap_id (by omega)]; omega]
      exact Ok.atn (by omega) (Ok.atn hi (Ok.n (by omega) hk))
    · exact Ok.n (by omega) hk
  · exact Ok.n (by omega) (Ok.s (setV_good hq).symm)
theorem starts29_is (h : PageLen p) : r29_starts 1000 p = some (startsV p) := by
  have hst := h.st
  have hnx := h.nx
  refine Ok.eq ?_
  unfold r29_starts startsV
  refine Ok.loop (fun m x => ∃ (i : Nat) (k t : Int), x = ((k, t, (i : Int), ()), p, ()) ∧ i ≤ p.Starts.length ∧ -1 ≤ k ∧ k ≤ 1000000 ∧ startsF p.Next k t (p.Starts.drop i) = startsF p.Next (-1) p.Start p.Starts ∧ m = p.Starts.length - i) (m := p.Starts.length) (by omega)
    ⟨0, -1, p.Start, rfl, by omega, by omega, by omega, rfl, rfl⟩ ?_
  rintro m x ⟨i, k, t, rfl, h1, h2, h2', h3, rfl⟩ K hK
  dsimp only
  refine Ok.ite (fun hi => ?_) (fun hi => ?_)
  · have hlt : i < p.Starts.length := by omega
    have hs := h.pe _ (nth_mem hlt)
    refine Ok.j (Ok.atn hlt ?_)
    obtain ⟨s, hse⟩ : ∃ s, nth p.Starts i = s := ⟨_, rfl⟩
    rw [drop_nth' hlt, startsF, hse] at h3
    rw [hse] at hs ⊢
    refine Ok.join (fun y => y = ((k, (i : Int), ()), p, s, ()) ∧ t ≤ s.At ∧ (s.K = -1 ∨ 0 ≤ s.K ∧ k < s.K ∧ s.K < p.Next) ∧ setV s.People = true) (fun y hy => ?_) (fun J hJ => ?_)
    · obtain ⟨rfl, c1, c2, c3⟩ := hy
      have hC : (decide (t ≤ s.At) && (decide (s.K = -1) || decide (0 ≤ s.K) && decide (k < s.K) && decide (s.K < p.Next)) && setV s.People) = true := by
        rw [c3]; simp; omega
      rw [hC, Bool.true_and] at h3
      dsimp only
      rw [wrap_succ (by omega)]
      refine Ok.ite (fun g => ?_) (fun g => ?_)
      · rw [show max k s.K = s.K by omega] at h3
        exact hK _ _ (by omega) ⟨i + 1, s.K, s.At, rfl, by omega, by omega, by omega, h3, rfl⟩
      · rw [show max k s.K = k by omega] at h3
        exact hK _ _ (by omega) ⟨i + 1, k, s.At, rfl, by omega, by omega, by omega, h3, rfl⟩
    · refine Ok.ite (fun g1 => Ok.s ?_) (fun g1 => Ok.ite (fun g2 => Ok.s ?_) (fun g2 => Ok.ite (fun g3 => Ok.ite (fun g4 => Ok.s ?_) (fun g4 => Ok.ite (fun g5 => Ok.s ?_) (fun g5 => Ok.oe (set25_is (by omega)) (Ok.cnd (fun g6 => hJ _ ⟨rfl, by omega, by omega, g6⟩) (fun g6 => Ok.s ?_))))) (fun g3 => Ok.oe (set25_is (by omega)) (Ok.cnd (fun g6 => hJ _ ⟨rfl, by omega, by omega, g6⟩) (fun g6 => Ok.s ?_)))))
      · rw [← h3, decide_eq_false (show ¬ t ≤ s.At by omega)]; rfl
      · rw [← h3, decide_eq_false (show ¬ s.K = -1 by omega), decide_eq_false (show ¬ 0 ≤ s.K by omega)]; simp
      · rw [← h3, decide_eq_false (show ¬ s.K = -1 by omega), decide_eq_false (show ¬ k < s.K by omega)]; simp
      · rw [← h3, decide_eq_false (show ¬ s.K = -1 by omega), decide_eq_false (show ¬ s.K < p.Next by omega)]; simp
      · rw [← h3, g6]; simp
      · rw [← h3, g6]; simp
  · have e : i = p.Starts.length := by omega
    refine Ok.s ?_
    subst e
    rw [List.drop_length, startsF] at h3
    rw [← h3, Bool.true_and]
    exact decide_eq_decide.2 (by omega)
theorem count25_is {m : Nat} {q : D.Policy} (h : PolOK m q) : r25_Count 1000 q = some (countV q) := by
  have h1 := h.rep
  have h2 := h.len
  refine Ok.eq ?_
  unfold r25_Count
  refine Ok.j (Ok.oe rin (Ok.bt (inV_is.2 (by omega)) (Ok.n (by omega) (Ok.s ?_))))
  rw [(countV_is h).1, wrap_id (x := q.Repeat + 1) (by omega), wrap_id]
  have h3 : q.Repeat = 0 ∨ q.Repeat = 1 ∨ q.Repeat = 2 := by omega
  rcases h3 with h3 | h3 | h3 <;> rw [h3] <;> omega
theorem waits25_is {m : Nat} {q : D.Policy} (h : PolOK m q) : r25_Waits 1000 q = some true := by
  have h2 := h.len
  refine Ok.eq ?_
  unfold r25_Waits
  refine Ok.run2 q.Steps.length (fun i => ((i : Int), ())) rfl (by omega) (fun i hi k hk => ?_) (fun k => Ok.n (by omega) (Ok.s rfl))
  dsimp only
  have hw := (h.step _ (nth_mem hi)).wait
  refine Ok.p (by omega) (Ok.atn hi (Ok.oe rin (Ok.nt (inV_is.2 (by omega)) ?_)))
  rw [wrap_succ (by omega)]
  exact hk
theorem part25_is {m : Nat} {q : D.Policy} {i : Int} (h : PolOK m q) : r25_Part 1000 q i = some (partV q i) := by
  have h2 := h.len
  have hc := countV_is h
  refine Ok.eq ?_
  unfold r25_Part partV
  refine Ok.j (Ok.ite (fun g1 => Ok.s ?_) (fun g1 => Ok.oe (count25_is h) (Ok.ite (fun g2 => Ok.s ?_) (fun g2 => Ok.nzc (by omega) (Ok.nzc (by omega) (Ok.s ?_))))))
  · rw [if_neg (by omega)]
  · rw [if_neg (by omega)]
  · have g3 := Int.ediv_le_self (a := i) (q.Steps.length : Int) (by omega)
    have g4 : 0 ≤ i / (q.Steps.length : Int) := Int.ediv_nonneg (by omega) (by omega)
    rw [if_pos (by omega), Int.tmod_eq_emod_of_nonneg (by omega), Int.tdiv_eq_ediv_of_nonneg (by omega), wrap_id (by omega)]
def newV (b : D.Book) (id pol start : Int) : D.Page × Int :=
  if inV id 1 999999 = true ∧ inV start 0 8589934592 = true then (if inV pol 0 ((b.Policies.length : Int) - 1) = true then (newP id pol start, 0) else (page0, 3)) else (page0, 1)
theorem new29_is {id pol start : Int} (hb : BookOK b) : r29_New 1000 b id pol start = some (newV b id pol start) := by
  have hp := hb.plen
  refine Ok.eq ?_
  unfold r29_New newV
  refine Ok.j (Ok.oe rin (Ok.cnd (fun h1 => Ok.oe rin (Ok.cnd (fun h2 => ?_) (fun h2 => Ok.s ?_))) (fun h1 => Ok.s ?_)))
  · dsimp only
    rw [if_pos ⟨h1, h2⟩, wrap_id (by omega)]
    refine Ok.oe rin (Ok.ncnd (fun h3 => Ok.s ?_) (fun h3 => Ok.s ?_))
    · rw [if_neg (by rw [h3]; simp)]; rfl
    · rw [if_pos h3]; rfl
  · rw [if_neg (by rw [h2]; simp)]; rfl
  · rw [if_neg (by rw [h1]; simp)]; rfl
theorem check29_is (hb : BookOK b) (h : PageLen p) : r29_Check 1000 b p = some (checkV b p) := by
  have hde := h.de; have hse := h.se
  have hpl := hb.plen
  refine Ok.eq ?_
  unfold r29_Check
  refine Ok.j (Ok.oe (new29_is hb) ?_)
  unfold newV
  by_cases h1 : inV p.ID 1 999999 = true ∧ inV p.Start 0 8589934592 = true
  · rw [if_pos h1]
    by_cases h2 : inV p.Policy 0 ((b.Policies.length : Int) - 1) = true
    · rw [if_pos h2]
      have h2' := inV_is.1 h2
      have hq : PolOK b.Teams.length (polOf b p) := hb.pol _ (nth_mem (by omega))
      have hw := waits_true hq
      refine Ok.n (by simp) (Ok.at h2'.1 (by omega) ?_)
      show Ok (optc (r25_Waits 1000 (polOf b p)) _) _
      refine Ok.oe (waits25_is hq) (Ok.t (Ok.at h2'.1 (by omega) ?_))
      show Ok (optc (r25_Count 1000 (polOf b p)) _) _
      refine Ok.oe (count25_is hq) (Ok.oe rin (Ok.cnd (fun h4 => ?_) (fun h4 => Ok.s (by simp [checkV, h4]))))
      refine Ok.j (Ok.oe rin (Ok.cnd (fun h5 => ?_) (fun h5 => Ok.s (by simp [checkV, h5]))))
      refine Ok.oe rin (Ok.cnd (fun h6 => ?_) (fun h6 => Ok.s (by simp [checkV, h6])))
      refine Ok.oe rin (Ok.cnd (fun h7 => ?_) (fun h7 => Ok.s (by have h7 : inV p.Last p.Start farV = false := h7; simp [checkV, h7])))
      refine Ok.oe rin (Ok.cnd (fun h8 => ?_) (fun h8 => Ok.s (by have h8 : inV p.Due 0 farV = false := h8; simp [checkV, h8])))
      refine Ok.oe rin (Ok.cnd (fun h9 => ?_) (fun h9 => Ok.s (by have h9 : inV p.Until 0 farV = false := h9; simp [checkV, h9])))
      refine Ok.j (Ok.oe rin (Ok.cnd (fun h10 => ?_) (fun h10 => Ok.s (by simp [checkV, h10]))))
      refine Ok.oe rin (Ok.cnd (fun h11 => ?_) (fun h11 => Ok.s (by simp [checkV, h11])))
      refine Ok.oe (starts29_is h) (Ok.cnd (fun h12 => ?_) (fun h12 => Ok.s (by simp [checkV, h12])))
      refine Ok.oe (set25_is (by omega)) (Ok.cnd (fun h13 => ?_) (fun h13 => Ok.s (by simp [checkV, h13])))
      refine Ok.ite (fun h14 => Ok.s (by simp [checkV, seenV, decide_eq_false (show ¬ p.Seen.length ≤ 64 by omega)])) (fun h14 => ?_)
      have h7' : inV p.Last p.Start farV = true := h7
      have h8' : inV p.Due 0 farV = true := h8
      have h9' : inV p.Until 0 farV = true := h9
      have hcv : checkV b p = seenV p.Seen := by simp [checkV, h1.1, h1.2, h2, hw, h4, h5, h6, h7', h8', h9', h10, h11, h12, h13]
      rw [hcv]
      unfold seenV
      rw [decide_eq_true (show p.Seen.length ≤ 64 by omega), Bool.and_true]
      refine Ok.scan2 p.Seen.length (fun i => ((i : Int), ())) (fun i => (p.Seen.take i).contains (nth p.Seen i)) rfl (by omega) (fun i hi hq _ k => ?_) (fun i hi hq k hk => ?_) (fun hq k => ?_)
      · refine Ok.p (by omega) (Ok.natn (Ok.lec (by omega) (Ok.atn hi (Ok.oe (has25_is (by simp; omega)) (Ok.bt hq (Ok.s ?_))))))
        rw [seen_bad hi hq]
      · refine Ok.p (by omega) (Ok.natn (Ok.lec (by omega) (Ok.atn hi (Ok.oe (has25_is (by simp; omega)) (Ok.bf hq ?_)))))
        rw [wrap_succ (by omega)]; exact hk
      · exact Ok.n (by omega) (Ok.s (decide_eq_true (seen_good hq)).symm)
    · rw [if_neg h2]
      exact Ok.p (by simp) (Ok.s (by simp [checkV, h2]))
  · rw [if_neg h1]
    refine Ok.p (by simp) (Ok.s ?_)
    have : checkV b p = false := by
      rw [Bool.eq_false_iff]
      intro hc
      have hf := checkV_facts hc
      exact h1 ⟨inV_is.2 hf.id, inV_is.2 hf.start⟩
    rw [this]
theorem due29_is : r29_Due 1000 p = some (dueV p) := due_is
theorem called29_is (h : PageLen p) : r29_Called 1000 p = some (calledV p) := by
  have h1 := h.st
  refine Ok.eq ?_
  unfold r29_Called calledV
  refine Ok.ite (fun h0 => Ok.s ?_) (fun h0 => ?_)
  · rw [if_pos (List.eq_nil_iff_length_eq_zero.2 (by omega))]
  · have hne : p.Starts ≠ [] := fun e => h0 (by rw [e]; rfl)
    have hpos := List.length_pos_iff.2 hne
    rw [show IntKind.wrap .i64 (((p.Starts.length : Nat) : Int) - 1) = ((p.Starts.length - 1 : Nat) : Int) by rw [wrap_id (by omega)]; omega]
    have hp := (h.pe _ (nth_mem (l := p.Starts) (i := p.Starts.length - 1) (by omega))).1
    refine Ok.atn (by omega) (Ok.lec (by omega) (Ok.s ?_))
    rw [if_neg hne]
theorem copy29_is (h : PageLen p) : r29_Copy 1000 p = some p := by
  have h1 := h.st; have h2 := h.de; have h3 := h.se
  refine Ok.eq ?_
  unfold r29_Copy
  refine Ok.run p.Starts.length (fun i => (((i : Int), ()), p, page0, p.Starts.take i, ())) rfl (by omega) (fun i hi k hk => ?_) (fun k => ?_)
  · dsimp only
    have hp := (h.pe _ (nth_mem hi)).1
    refine Ok.p (by omega) (Ok.atn hi (Ok.lec (by omega) (Ok.lec (by simp; omega) ?_)))
    rw [wrap_succ (by omega), take_snoc' hi]
    exact hk
  · dsimp only
    rw [List.take_length]
    exact Ok.n (by omega) (Ok.lec (by omega) (Ok.lec (by omega) (Ok.s rfl)))
theorem filter_snoc {l : List Int} {f : Int → Bool} {i : Nat} (hi : i < l.length) : (l.take (i + 1)).filter f = (l.take i).filter f ++ (if f (nth l i) = true then [nth l i] else []) := by
  rw [← take_snoc' hi, List.filter_append]
  congr 1
  by_cases h : f (nth l i) = true
  · simp [h]
  · simp [h]
theorem step29_is (h : CfgOK n c) (hn : n ≤ 48) (hb : BookOK b) (hp : PageLen p) : r29_Step 1000 c b p = some (stepV c b p) := by
  refine Ok.eq ?_
  unfold r29_Step
  have hst := hp.st
  refine Ok.oe (check29_is hb hp) (Ok.ncnd (fun hc => Ok.s ?_) (fun hc => ?_))
  · unfold stepV; rw [if_pos hc]; rfl
  have hf := checkV_facts hc
  refine Ok.oe due29_is (Ok.ncnd (fun hd => Ok.s ?_) (fun hd => ?_))
  · unfold stepV; rw [if_neg (by rw [hc]; simp), if_pos hd]; rfl
  have hst2 := hf.starts
  refine Ok.ite (fun hl => Ok.s ?_) (fun hl => ?_)
  · unfold stepV; rw [if_neg (by rw [hc]; simp), if_neg (by rw [hd]; simp), if_pos (by omega)]; rfl
  have hV : stepV c b p = (stepQ c b p, 0) := by unfold stepV; rw [if_neg (by rw [hc]; simp), if_neg (by rw [hd]; simp), if_neg (by omega)]
  rw [hV]
  have hs := due_state hd
  have hpol := hf.pol; have hnx := hf.next; have hl2 := hf.last; have hdu := hf.due
  refine Ok.oe (copy29_is hp) (Ok.ite (fun h2 => Ok.s ?_) (fun h2 => ?_))
  · unfold stepQ
    rw [if_pos h2, dueV_fst2 h2]
  · have h0 : p.State = 0 := by omega
    have hq := hf.polOK hb
    have hcn := countV_is hq
    have hql := hq.len
    refine Ok.at hpol.1 hpol.2 ?_
    show Ok (optc (r25_Part 1000 (polOf b p) p.Next) _) _
    refine Ok.oe (part25_is hq) ?_
    unfold partV
    rw [dueV_fst0 h0]
    by_cases he : p.Next < countV (polOf b p)
    · rw [if_pos ⟨hnx.1, he⟩]
      dsimp only
      have hm := mod_in (q := polOf b p) (i := p.Next) hql.1
      refine Ok.f (Ok.at hm.1 hm.2 ?_)
      have hstp := hq.step _ (step_in hq hnx.1)
      have hw : 0 ≤ (stepAt b p).Wait ∧ (stepAt b p).Wait ≤ 900 := hstp.wait
      have hlen : (stepAt b p).Targets.length ≤ 2 := hstp.len
      show Ok (optc (r25_People 1000 c b (stepAt b p).Targets p.Due) _) _
      refine Ok.oe (peopleR_ok h hn hb hstp.target (by omega)) ?_
      have hpl := peopleV_len (c := c) (b := b) (l := (stepAt b p).Targets) (t := p.Due)
      obtain ⟨l, hl3⟩ : ∃ l, peopleV c b (stepAt b p).Targets p.Due = l := ⟨_, rfl⟩
      rw [hl3] at hpl ⊢
      have hcall : callV c b (stepAt b p) p.Due = l.filter fun z => reachV c z p.Due (stepAt b p).Urgent := by unfold callV; rw [hl3]
      refine Ok.run l.length (fun i => ((p.Due, p.Next % ((polOf b p).Steps.length : Int), l, (i : Int), ()), c, p, page0, (p.ID, p.Policy, p.Start, p.Next, p.Due, p.State, p.By, p.Until, max p.Due p.Last, p.Snoozes, p.Hands, ()), polOf b p, (p.Next, p.Due, ()), p.Starts, p.Declined, p.Seen, (l.take i).filter (fun z => reachV c z p.Due (stepAt b p).Urgent), ())) rfl (by omega) (fun i hi k hk => ?_) (fun k => ?_)
      · dsimp only
        have hfl := List.length_filter_le (fun z => reachV c z p.Due (stepAt b p).Urgent) (l.take i)
        have htl := List.length_take_le i l
        refine Ok.p (by omega) (Ok.j (Ok.atn hi (Ok.at hm.1 hm.2 (Ok.oe (reachR_is h hn) ?_))))
        show Ok (AM.cnd (reachV c (nth l i) p.Due (stepAt b p).Urgent) _ _) _
        rw [filter_snoc hi] at hk
        refine Ok.cnd (fun g => Ok.atn hi (Ok.lec (by simp; omega) ?_)) (fun g => ?_)
        · dsimp only
          rw [if_pos g] at hk
          rw [wrap_succ (by omega)]
          exact hk
        · dsimp only
          rw [if_neg (by rw [g]; simp), List.append_nil] at hk
          rw [wrap_succ (by omega)]
          exact hk
      · dsimp only
        rw [List.take_length, ← hcall]
        unfold stepQ
        rw [if_neg h2, if_neg (by omega)]
        refine Ok.n (by omega) (Ok.lec (by simp; omega) (Ok.j (Ok.ite (fun g => Ok.at hm.1 hm.2 (Ok.s ?_)) (fun g => Ok.s ?_))))
        · have hne : callV c b (stepAt b p) p.Due ≠ [] := fun e => by rw [e] at g; simp at g
          unfold farV at hdu
          show _ = _
          rw [if_neg hne, wrap_id (by omega)]
          have : IntKind.wrap .i64 (p.Due + (stepAt b p).Wait) = p.Due + (stepAt b p).Wait := wrap_id (by omega)
          unfold stepAt at this
          rw [this]
          rfl
        · have he' : callV c b (stepAt b p) p.Due = [] := List.eq_nil_iff_length_eq_zero.2 (by omega)
          show _ = _
          rw [if_pos he', wrap_id (by omega)]
    · rw [if_neg (by omega)]
      dsimp only
      refine Ok.t (Ok.s ?_)
      unfold stepQ
      rw [if_neg h2, if_pos (by omega)]
theorem run29_is (h : CfgOK n c) (hn : n ≤ 48) (hb : BookOK b) (hp : PageLen p) : r29_Run 1000 c b p now = some (runV c b p now) := by
  refine Ok.eq ?_
  unfold r29_Run
  refine Ok.oe (check29_is hb hp) (Ok.ncnd (fun hc => Ok.s ?_) (fun hc => ?_))
  · unfold runV; rw [if_pos hc]; rfl
  rw [runV_is hc]
  have hf := checkV_facts hc
  have hcn := countV_is (hf.polOK hb)
  have hnx := hf.next
  have hle : leftV b p ≤ 11 := by
    unfold leftV
    split
    · omega
    · split <;> omega
  refine Ok.oe (copy29_is hp) ?_
  refine Ok.loop (fun m x => ∃ (q : D.Page) (k : Nat), x = ((now, ()), c, b, q, page0, ()) ∧ PageLen q ∧ leftV b q + 1 ≤ k ∧ runN c b now k q = runN c b now 100 p ∧ m = leftV b q) (m := leftV b p) (by omega) ⟨p, 100, rfl, hp, by omega, rfl, rfl⟩ ?_
  rintro m x ⟨q, k, rfl, hq, hk, he, rfl⟩ K hK
  dsimp only
  obtain ⟨k, rfl⟩ : ∃ k', k = k' + 1 := ⟨k - 1, by omega⟩
  rw [runN] at he
  refine Ok.oe due29_is ?_
  have hwv : waitB q now = ((dueV q).2 && decide ((dueV q).1 ≤ now)) := rfl
  refine Ok.join (fun y => y = ((now, ()), c, b, q, page0, ()) ∧ waitB q now = true) (fun y hy => ?_) (fun J hJ => ?_)
  · obtain ⟨rfl, hw⟩ := hy
    dsimp only
    rw [if_pos hw] at he
    refine Ok.oe (step29_is h hn hb hq) (Ok.ite (fun h1 => Ok.s ?_) (fun h1 => ?_))
    · rw [if_pos h1] at he; exact he
    · rw [if_neg h1] at he
      have hd := waitB_due hw
      have hst : stepV c b q = (stepQ c b q, 0) := by
        revert h1
        unfold stepV
        split
        · simp
        · split
          · simp
          · split
            · simp
            · intro _; rfl
      have hl := step_left (c := c) (b := b) hd.1
      rw [hst] at he ⊢
      refine hK (leftV b (stepQ c b q)) _ hl ⟨stepQ c b q, k, rfl, ?_, by omega, he, rfl⟩
      have := hq.stepV (c := c) hb
      rw [hst] at this; exact this
  · refine Ok.cnd (fun h1 => Ok.ite (fun h2 => Ok.s ?_) (fun h2 => hJ _ ⟨rfl, by rw [hwv, h1]; simp; omega⟩)) (fun h1 => Ok.s ?_)
    · rw [if_neg (by rw [hwv, h1]; simp; omega)] at he; exact he
    · rw [if_neg (by rw [hwv, h1]; simp)] at he; exact he
end
end Go.Proofs.YtfhcigjkfelnfaaGreat
/-
  Pages on their way: what the program's answers compute.
-/
set_option maxRecDepth 100000
set_option linter.unusedVariables false
set_option linter.unusedSimpArgs false
namespace Go.Proofs.YtfhcigjkfelnfaaGreat
open Go AM
section
variable {n : Nat} {c : D.Config} {b : D.Book} {p q : D.Page} {now : Int} {a : D.Answer}
theorem called_len (h : PageLen p) : (calledV p).length ≤ 40 := by
  unfold calledV
  split
  · simp
  · rename_i hne
    have hpos := List.length_pos_iff.2 hne
    exact (h.pe _ (nth_mem (by omega))).1
theorem swap_perm {l : List Int} {j : Nat} (h1 : 1 ≤ j) (hj : j < l.length) : (swapL l j).Perm l := by
  unfold swapL
  have e1 : nth l j = l[j] := by simp [nth, List.getD_eq_getElem?_getD, List.getElem?_eq_getElem hj]
  have e2 : nth l (j - 1) = l[j - 1] := by simp [nth, List.getD_eq_getElem?_getD, List.getElem?_eq_getElem (show j - 1 < l.length by omega)]
  rw [e1, e2]
  exact List.set_set_perm hj (by omega)
theorem isort0_ok {l0 : List Int} (hs : l0.length ≤ 900) :
    Ok (slices_insertionSortOrdered_int_0 1000 l0 0 ((l0.length : Nat) : Int)) fun r => r.Perm l0 ∧ SortedTo r l0.length := by
  obtain ⟨m, hm⟩ : ∃ m, l0.length = m := ⟨_, rfl⟩
  rw [hm]
  rw [hm] at hs
  unfold slices_insertionSortOrdered_int_0
  refine Ok.loop (fun q x => ∃ i a, x = ((0, (m : Int), ((i : Nat) : Int), ()), a, ()) ∧ 1 ≤ i ∧ a.Perm l0 ∧ SortedTo a (min i m) ∧ q = m + 1 - i) (m := m) (by omega)
    ⟨1, l0, by rw [wrap_id (by omega)]; rfl, by omega, .refl _, fun a b h1 h2 => by omega, by omega⟩ ?_
  rintro q x ⟨i, a, rfl, h1, h2, h3, rfl⟩ K hK
  have hal := h2.length_eq
  dsimp only
  refine Ok.ite (fun hi => ?_) (fun hi => Ok.s ⟨h2, by rw [show min i m = m by omega] at h3; exact h3⟩)
  have hlt : i < m := by omega
  rw [show min i m = i by omega] at h3
  refine Ok.j ?_
  refine Ok.loop (fun q x => ∃ j a', x = ((0, (m : Int), ((i : Nat) : Int), ((j : Nat) : Int), ()), a', ()) ∧ j ≤ i ∧ a'.Perm l0 ∧ ButFor a' (i + 1) j ∧ q = j) (m := i) (by omega)
    ⟨i, a, rfl, by omega, h2, butfor_start h3, rfl⟩ ?_
  rintro q x ⟨j, a', rfl, g1, g2, g3, hqj⟩ K2 hK2
  have hal' := g2.length_eq
  dsimp only
  have fin : (j = 0 ∨ nth a' (j - 1) ≤ nth a' j) → Ok (K ((0, (m : Int), IntKind.wrap .i64 ((i : Int) + 1), ()), a', ())) fun r => r.Perm l0 ∧ SortedTo r m := fun he => by
    rw [wrap_succ (by omega)]
    exact hK (m + 1 - (i + 1)) _ (by omega) ⟨i + 1, a', rfl, by omega, g2, by rw [show min (i + 1) m = i + 1 by omega]; exact butfor_end g3 he, rfl⟩
  refine Ok.j (Ok.ite (fun hj => ?_) (fun hj => fin (.inl (by omega))))
  have hw : IntKind.wrap .i64 ((j : Int) - 1) = ((j - 1 : Nat) : Int) := by rw [wrap_id (by omega)]; omega
  rw [hw]
  refine Ok.natn (Ok.lt (by omega) (Ok.get (by omega) (Ok.natn (Ok.lt (by omega) (Ok.get (by omega) (Ok.oe less_is (Ok.ite (fun hless => ?_) (fun hless => fin (.inr (by omega))))))))))
  dsimp only
  rw [hw]
  refine Ok.natn (Ok.lt (by omega) (Ok.get (by omega) (Ok.natn (Ok.lt (by omega) (Ok.get (by omega) (Ok.natn (Ok.lt (by omega) (Ok.get (by omega) (Ok.natn (Ok.lt (by simp; omega) (Ok.get (by simp; omega) ?_)))))))))))
  have hsw : (a'.set j (nth a' (j - 1))).set (j - 1) (nth a' j) = swapL a' j := rfl
  rw [hsw]
  exact hK2 (j - 1) _ (by omega) ⟨j - 1, swapL a' j, rfl, by omega, (swap_perm (by omega) (by omega)).trans g2, butfor_step g3 (by omega) (by omega) (by omega) hless, rfl⟩
theorem sort0_ok {l0 : List Int} (hs : l0.length ≤ 12) :
    Ok (slices_Sort_int_0 1000 l0) fun r => r.Perm l0 ∧ SortedTo r l0.length := by
  unfold slices_Sort_int_0
  obtain ⟨bv, hb⟩ := Option.isSome_iff_exists.1 (bits_ok l0.length (by omega))
  refine Ok.oe hb (Ok.opt (P := fun r => r.Perm l0 ∧ SortedTo r l0.length) ?_ fun r hr => Ok.ck hr.1.length_eq (Ok.s hr))
  unfold slices_pdqsortOrdered_int_0
  refine Ok.loop (fun q x => x = ((0, ((l0.length : Nat) : Int), bv, true, true, ()), l0, ())) (m := 0) (by omega) rfl ?_
  rintro q x rfl K hK
  dsimp only
  refine Ok.p (by rw [wrap_id (by omega)]; omega) (Ok.opt (isort0_ok (by omega)) fun r hr => Ok.ck hr.1.length_eq (Ok.s hr))
end
end Go.Proofs.YtfhcigjkfelnfaaGreat
/-
  Pages on their way: what the reference's answers compute; pages compared.
-/
set_option maxRecDepth 100000
set_option linter.unusedVariables false
set_option linter.unusedSimpArgs false
namespace Go.Proofs.YtfhcigjkfelnfaaGreat
open Go AM
section
variable {n : Nat} {c : D.Config} {b : D.Book} {p q : D.Page} {now : Int} {a : D.Answer}
theorem valid28_is : r28_Valid 1000 a = some (validV a) := by
  refine Ok.eq ?_
  unfold r28_Valid
  refine Ok.j (Ok.oe rin (Ok.cnd (fun h1 => Ok.oe rin (Ok.cnd (fun h2 => Ok.oe rin (Ok.cnd (fun h3 => Ok.oe rin (Ok.cnd (fun h4 => ?_) (fun h4 => Ok.s ?_))) (fun h3 => Ok.s ?_))) (fun h2 => Ok.s ?_))) (fun h1 => Ok.s ?_)))
  · dsimp only
    refine Ok.join (fun y => y.1.1 = a.Kind ∧ y.1.2.1 = decide (a.Kind = 1 ∨ a.Kind = 2 ∨ a.Kind = 5) ∧ y.2 = (a, ())) (fun y hy => ?_) (fun J hJ => ?_)
    · obtain ⟨⟨k, z, ⟨⟩⟩, r⟩ := y
      obtain ⟨e1, e2, e3⟩ := hy
      dsimp only at e1 e2 e3
      subst e3; subst e1
      dsimp only
      refine Ok.cnd (fun g => Ok.s ?_) (fun g => Ok.ite (fun k3 => Ok.oe rin (Ok.s ?_)) (fun k3 => Ok.ite (fun k4 => Ok.oe rin (Ok.s ?_)) (fun k4 => Ok.s ?_)))
      · rw [e2] at g
        have g := of_decide_eq_true g
        have hk : inV a.Kind 1 5 = true := inV_is.2 (by omega)
        unfold validV
        rw [if_neg (by omega), if_neg (by omega), h1, h2, h3, h4, hk]; rfl
      · have hk : inV a.Kind 1 5 = true := inV_is.2 (by omega)
        unfold validV
        rw [if_pos k3, h1, h2, h3, h4, hk]; rfl
      · have hk : inV a.Kind 1 5 = true := inV_is.2 (by omega)
        unfold validV
        rw [if_neg k3, if_pos k4, h1, h2, h3, h4, hk]; rfl
      · rw [e2] at g
        have g := of_decide_eq_false g
        have hk : inV a.Kind 1 5 = false := Bool.eq_false_iff.2 fun h => by have := inV_is.1 h; omega
        unfold validV
        rw [hk]; simp
    · refine Ok.ite (fun g1 => hJ _ ⟨rfl, ?_, rfl⟩) (fun g1 => Ok.ite (fun g2 => hJ _ ⟨rfl, ?_, rfl⟩) (fun g2 => hJ _ ⟨rfl, ?_, rfl⟩))
      all_goals exact decide_eq_decide.2 (by omega)
  · unfold validV; rw [h4]; simp
  · unfold validV; rw [h3]; simp
  · unfold validV; rw [h2]; simp
  · unfold validV; rw [h1]; simp
theorem refused29_is (hf : CkF b p) : r29_refused 1000 p a = some (refusedV p a) := by
  have hs1 := hf.seen; have hs2 := hf.snoozes; have hs3 := hf.hands; have hs4 := hf.starts
  refine Ok.eq ?_
  unfold r29_refused
  refine Ok.oe due29_is ?_
  rcases hdv : dueV p with ⟨da, dd⟩
  dsimp only
  refine Ok.j (Ok.ite (fun g1 => Ok.s ?_) (fun g1 => Ok.cnd (fun g2 => Ok.ite (fun g3 => Ok.s ?_) (fun g3 => ?_)) (fun g2 => ?_)))
  · unfold refusedV; rw [if_pos (.inl g1)]
  · unfold refusedV; rw [if_pos (.inr (by unfold waitB; rw [hdv, g2]; simp; omega))]
  all_goals
    have hw : waitB p a.At = false := by
      unfold waitB
      rw [hdv, g2]
      first | rfl | (simp; omega)
    unfold refusedV
    rw [if_neg (by rw [hw]; simp; omega)]
    refine Ok.join (fun y => y.1.1 = decide (p.State = 4 ∨ (p.State = 3 ∧ a.Kind ≠ 5) ∨ (p.State = 1 ∧ a.Kind = 2)) ∧ y.2 = (p, a, ())) (fun y hy => ?_) (fun J hJ => ?_)
    · obtain ⟨⟨s2, ⟨⟩⟩, r⟩ := y
      obtain ⟨k2, k3⟩ := hy
      dsimp only at k2 k3
      subst k3
      dsimp only
      refine Ok.cnd (fun g3 => Ok.s ?_) (fun g3 => ?_)
      · rw [k2] at g3; rw [if_pos (of_decide_eq_true g3)]
      · rw [k2] at g3; rw [if_neg (of_decide_eq_false g3)]
        refine Ok.join (fun y => y.1.1 = decide (p.Seen.length = 64 ∨ (a.Kind = 3 ∧ p.Snoozes = 4) ∨ (a.Kind = 4 ∧ (p.Hands = 4 ∨ p.Starts.length = 200)))) (fun y hy => ?_) (fun J hJ => ?_)
        · obtain ⟨⟨s3, ⟨⟩⟩, ⟨⟩⟩ := y
          dsimp only at hy ⊢
          refine Ok.cnd (fun g4 => Ok.s ?_) (fun g4 => Ok.s ?_)
          · rw [hy] at g4; rw [if_pos (of_decide_eq_true g4)]
          · rw [hy] at g4; rw [if_neg (of_decide_eq_false g4)]
        · refine Ok.ite (fun g4 => hJ _ ?_) (fun g4 => Ok.ite (fun g5 => Ok.ite (fun g6 => hJ _ ?_) (fun g6 => Ok.ite (fun g7 => Ok.ite (fun g8 => hJ _ ?_) (fun g8 => Ok.ite (fun g9 => hJ _ ?_) (fun g9 => hJ _ ?_))) (fun g7 => hJ _ ?_))) (fun g5 => Ok.ite (fun g7 => Ok.ite (fun g8 => hJ _ ?_) (fun g8 => Ok.ite (fun g9 => hJ _ ?_) (fun g9 => hJ _ ?_))) (fun g7 => hJ _ ?_)))
          all_goals (dsimp only; first | exact (decide_eq_true (by omega)).symm | exact (decide_eq_false (by omega)).symm | exact decide_eq_decide.2 (by omega))
    · refine Ok.ite (fun g3 => hJ _ ⟨?_, rfl⟩) (fun g3 => Ok.ite (fun g4 => Ok.ite (fun g5 => hJ _ ⟨?_, rfl⟩) (fun g5 => Ok.ite (fun g6 => Ok.ite (fun g7 => hJ _ ⟨?_, rfl⟩) (fun g7 => hJ _ ⟨?_, rfl⟩)) (fun g6 => hJ _ ⟨?_, rfl⟩))) (fun g4 => Ok.ite (fun g6 => Ok.ite (fun g7 => hJ _ ⟨?_, rfl⟩) (fun g7 => hJ _ ⟨?_, rfl⟩)) (fun g6 => hJ _ ⟨?_, rfl⟩)))
      all_goals (dsimp only; first | exact (decide_eq_true (by omega)).symm | exact (decide_eq_false (by omega)).symm | exact decide_eq_decide.2 (by omega))
theorem with25_plus {l : List Int} {x : Int} (hl : l.length ≤ 400) (h : Asc l) : r25_With 1000 l x = some (plusV l x) := by
  rw [withR hl]
  congr 1
  exact asc_ext (withV_is h).1 (plusV_is h).1 fun z => by rw [(withV_is h).2, (plusV_is h).2]
theorem answer29_is (hb : BookOK b) (h : PageLen p) : r29_Answer 1000 c b p a = some (answerV b p a) := by
  have hse := h.se; have hst := h.st; have hde := h.de
  refine Ok.eq ?_
  unfold r29_Answer
  refine Ok.join (fun y => y = ((), p, a, page0, ()) ∧ checkV b p = true ∧ validV a = true) (fun y hy => ?_) (fun J hJ => ?_)
  · obtain ⟨rfl, hc, hv⟩ := hy
    dsimp only
    unfold answerV
    rw [if_neg (by rw [hc, hv]; simp)]
    have hf := checkV_facts hc
    have hv' := hv
    unfold validV at hv'
    simp only [Bool.and_eq_true, inV_is] at hv'
    obtain ⟨⟨⟨⟨⟨v1, v2⟩, v3⟩, v4⟩, v5⟩, v6⟩ := hv'
    have hsn := hf.snoozes; have hha := hf.hands
    refine Ok.ite (fun g1 => Ok.s ?_) (fun g1 => ?_)
    · rw [if_pos g1]; rfl
    rw [if_neg g1]
    refine Ok.oe (copy29_is h) (Ok.oe (has25_is (by omega)) (Ok.cnd (fun g2 => Ok.s ?_) (fun g2 => ?_)))
    · rw [if_pos g2]
    rw [if_neg (by rw [g2]; simp)]
    refine Ok.oe (refused29_is hf) (Ok.ite (fun g3 => Ok.s ?_) (fun g3 => ?_))
    · rw [if_pos g3]; rfl
    rw [if_neg g3]
    refine Ok.lec (by simp; omega) (Ok.j ?_)
    unfold answerQ
    refine Ok.ite (fun k1 => Ok.ite (fun k2 => Ok.s ?_) (fun k2 => Ok.s ?_)) (fun k1 => Ok.ite (fun k2 => ?_) (fun k2 => Ok.ite (fun k3 => Ok.s ?_) (fun k3 => Ok.ite (fun k4 => Ok.lec (by simp; omega) (Ok.s ?_)) (fun k4 => Ok.ite (fun k5 => Ok.s ?_) (fun k5 => absurd v5 (by omega))))))
    · rw [if_pos k1, if_pos k2]
    · rw [if_pos k1, if_neg k2]
    · rw [if_neg k1, if_pos k2]
      have hcl := called_len h
      refine Ok.oe (called29_is h) ?_
      refine Ok.join (fun y => y = ((calledV p, ()), p, a, page0, (p.ID, p.Policy, p.Start, p.Next, p.Due, p.State, p.By, p.Until, a.At, p.Snoozes, p.Hands, declQ p a, ()), p.Starts, p.Seen ++ [a.ID], ())) (fun y hy => ?_) (fun J hJ => ?_)
      · subst hy
        dsimp only
        have hdl : (declQ p a).length ≤ 900 := by
          unfold declQ plusV
          split
          · have h1 := List.length_filter_le (fun z => decide (z < a.Person)) p.Declined
            have h2 := List.length_filter_le (fun z => decide (a.Person < z)) p.Declined
            simp only [List.length_append, List.length_cons]; omega
          · omega
        obtain ⟨aD, haD⟩ : ∃ aD : Nat → Bool, ∀ i, aD i = (decide ((0 : Int) < (((calledV p).length : Nat) : Int)) && ((calledV p).take i).all fun z => (declQ p a).contains z) := ⟨fun i => _, fun i => rfl⟩
        have hall : ∀ i, i < (calledV p).length → aD (i + 1) = (aD i && (declQ p a).contains (nth (calledV p) i)) := fun i hi => by
          rw [haD, haD, ← take_snoc' hi, List.all_append, Bool.and_assoc]
          simp
        have hlast : allDown p a = aD (calledV p).length := by
          rw [haD, List.take_length]
          unfold allDown
          congr 1
          refine decide_eq_decide.2 ⟨fun hne => by have := List.length_pos_iff.2 hne; omega, fun hpos e => by rw [e] at hpos; simp at hpos⟩
        refine Ok.run2 (calledV p).length (fun i => (calledV p, aD i, (i : Int), ())) (by rw [haD]; simp) (by omega) (fun i hi k hk => ?_) (fun k => ?_)
        · dsimp only at hk ⊢
          rw [hall i hi] at hk
          refine Ok.p (by omega) (Ok.j (Ok.cnd (fun g => Ok.atn hi (Ok.oe (has25_is hdl) (Ok.cnd (fun g' => ?_) (fun g' => ?_)))) (fun g => ?_)))
          · dsimp only
            rw [wrap_succ (by omega)]
            rw [g, g'] at hk; exact hk
          · dsimp only
            rw [wrap_succ (by omega)]
            rw [g, g'] at hk; exact hk
          · dsimp only
            rw [wrap_succ (by omega)]
            rw [g] at hk; exact hk
        · dsimp only
          rw [hlast]
          refine Ok.n (by omega) (Ok.cnd (fun g => Ok.ite (fun g0 => Ok.s ?_) (fun g0 => Ok.s ?_)) (fun g => Ok.s ?_))
          · rw [if_pos ⟨g, g0⟩]
          · rw [if_neg (fun hx => g0 hx.2)]
          · rw [if_neg (by rw [g]; simp)]
      · refine Ok.oe (has25_is (by omega)) (Ok.cnd (fun g4 => ?_) (fun g4 => ?_))
        · have hd := (setV_is.1 hf.declined).1
          refine Ok.oe (with25_plus (by omega) hd) (hJ _ ?_)
          have : declQ p a = plusV p.Declined a.Person := by unfold declQ; rw [if_pos g4]
          rw [this]
        · refine hJ _ ?_
          have : declQ p a = p.Declined := by unfold declQ; rw [if_neg (by rw [g4]; simp)]
          rw [this]
    · rw [if_neg k1, if_neg k2, if_pos k3]
      rw [if_pos k3] at v6
      have v6 := inV_is.1 v6
      rw [wrap_id (by omega), wrap_id (by omega)]
    · rw [if_neg k1, if_neg k2, if_neg k3, if_pos k4, wrap_id (by omega), wrap_id (by omega)]
    · rw [if_neg k1, if_neg k2, if_neg k3, if_neg k4]
  · refine Ok.oe (check29_is hb h) (Ok.cnd (fun g1 => Ok.oe valid28_is (Ok.cnd (fun g2 => hJ _ ⟨rfl, g1, g2⟩) (fun g2 => Ok.s ?_))) (fun g1 => Ok.s ?_))
    · unfold answerV; rw [if_pos (.inr g2)]; rfl
    · unfold answerV; rw [if_pos (.inl g1)]; rfl
end
end Go.Proofs.YtfhcigjkfelnfaaGreat
/-
  What else is kept of made pages: who declined, which answers were seen. Plain Lean.
-/
set_option maxRecDepth 100000
set_option linter.unusedVariables false
set_option linter.unusedSimpArgs false
namespace Go.Proofs.YtfhcigjkfelnfaaGreat
open Go AM
section
variable {n : Nat} {c : D.Config} {b : D.Book} {p q : D.Page} {now k M : Int} {a : D.Answer} {Q : Int → D.Start → Prop}
structure PgX (k : Int) (p : D.Page) : Prop where
  decl : ∀ x ∈ p.Declined, x < 4
  seen : ∀ x ∈ p.Seen, 1 ≤ x ∧ x ≤ k
theorem PgX.mono {k' : Int} (h : PgX k p) (hk : k ≤ k') : PgX k' p := ⟨h.decl, fun x hx => ⟨(h.seen x hx).1, Int.le_trans (h.seen x hx).2 hk⟩⟩
end
end Go.Proofs.YtfhcigjkfelnfaaGreat
/-
  How the statements begin: light inputs, dice.
-/
set_option linter.unusedVariables false
namespace Go.Proofs.YtfhcigjkfelnfaaGreat
open Go AM
theorem light_is {t : List Int} : made_Light 1000 t = some (decide (((t.length : Nat) : Int) ≤ 500)) := rfl
theorem roll_is {t : List Int} : made_Roll 1000 t = some ⟨t, 0⟩ := rfl
theorem dice0 {t : List Int} : DiceOK t ⟨t, 0⟩ := ⟨rfl, Int.le_refl _, by dsimp only; omega⟩
theorem light_len {t : List Int} (h : decide (((t.length : Nat) : Int) ≤ 500) = true) : t.length ≤ 500 := by have := of_decide_eq_true h; omega
end Go.Proofs.YtfhcigjkfelnfaaGreat
/-
  Pages and answers that are made by dice: what holds of them.
-/
set_option maxRecDepth 100000
set_option linter.unusedVariables false
set_option linter.unusedSimpArgs false
namespace Go.Proofs.YtfhcigjkfelnfaaGreat
open Go AM
attribute [local irreducible] dueV stepV runV checkV answerV
section
variable {n : Nat} {c : D.Config} {b : D.Book} {p q : D.Page} {now k M : Int} {a : D.Answer} {Q : Int → D.Start → Prop} {L : List Int} {d : D.Dice}
structure AnsOK (a : D.Answer) : Prop where
  pers : -1 ≤ a.Person ∧ a.Person < 4
  kind : 1 ≤ a.Kind ∧ a.Kind ≤ 5
  arg3 : a.Kind = 3 → 1 ≤ a.Arg ∧ a.Arg ≤ 5000
  arg4 : a.Kind = 4 → 0 ≤ a.Arg ∧ a.Arg < 4
  arg0 : a.Kind ≠ 3 → a.Kind ≠ 4 → a.Arg = 0
theorem AnsOK.valid (h : AnsOK a) (h1 : 1 ≤ a.ID ∧ a.ID ≤ 999999) (h2 : 1 ≤ a.Page ∧ a.Page ≤ 999999) (h3 : 0 ≤ a.At ∧ a.At ≤ 8589934592) : validV a = true := by
  have hp := h.pers; have hk := h.kind
  unfold validV
  rw [inV_is.2 h1, inV_is.2 h2, inV_is.2 (show -1 ≤ a.Person ∧ a.Person ≤ 31 by omega), inV_is.2 h3, inV_is.2 hk]
  simp only [Bool.true_and]
  split
  · rename_i k3; have := h.arg3 k3; exact inV_is.2 (by omega)
  · split
    · rename_i k4; have := h.arg4 k4; exact inV_is.2 (by omega)
    · rename_i k3 k4; exact decide_eq_true (h.arg0 k3 k4)
theorem answer_ok {id page at_ : Int} (hL : L.length ≤ 500) (hd : DiceOK L d) : Ok (made_Dice_Answer 1000 d id page at_) fun r => DiceOK L r.2 ∧ AnsOK r.1 ∧ r.1.ID = id ∧ r.1.Page = page ∧ r.1.At = at_ := by
  unfold made_Dice_Answer
  refine Ok.opt (nx hL hd (by omega) (by omega)) fun ⟨a0, d1⟩ ⟨h1, l1, u1⟩ => ?_
  dsimp only at h1 l1 u1 ⊢
  refine Ok.opt (nx hL h1 (by omega) (by omega)) fun ⟨a2, d3⟩ ⟨h3, l3, u3⟩ => ?_
  dsimp only at h3 l3 u3 ⊢
  rw [wrap_id (x := 1 + a2) (by omega), wrap_id (x := a0 - 1) (by omega)]
  refine Ok.j (Ok.ite (fun g => ?_) (fun g => Ok.ite (fun g' => ?_) (fun g' => ?_)))
  · refine Ok.opt (one_ok hL h3 (by simp) (by simp)) fun ⟨a8, d9⟩ ⟨h9, m9⟩ => Ok.s ⟨h9, ⟨by dsimp only; omega, by dsimp only; omega, fun _ => ?_, fun e => ?_, fun e => absurd g e⟩, rfl, rfl, rfl⟩
    · dsimp only at m9 ⊢
      simp only [List.mem_cons, List.not_mem_nil, or_false] at m9
      omega
    · dsimp only at e; omega
  · refine Ok.opt (nx hL h3 (by omega) (by omega)) fun ⟨a10, d11⟩ ⟨h11, l11, u11⟩ => Ok.s ⟨h11, ⟨by dsimp only; omega, by dsimp only; omega, fun e => ?_, fun _ => ⟨l11, u11⟩, fun _ e => absurd g' e⟩, rfl, rfl, rfl⟩
    dsimp only at e; omega
  · exact Ok.s ⟨h3, ⟨by dsimp only; omega, by dsimp only; omega, fun e => absurd e g, fun e => absurd e g', fun _ _ => rfl⟩, rfl, rfl, rfl⟩
theorem runV_pair (hb : BookOK b) (hQ : StepQ Q M c b) (h : PageInv Q M b p) (now : Int) : ∃ q, runV c b p now = (q, 0) ∧ PageInv Q M b q ∧ waitB q now = false ∧ Kept p q := by
  have h1 := runV_inv (now := now) hb hQ h
  have h2 := runV_kept (now := now) hb hQ h
  rcases hr : runV c b p now with ⟨q, e⟩
  rw [hr] at h1 h2
  obtain ⟨a1, a2, a3⟩ := h1
  dsimp only at a1 a2 a3 h2
  subst a2
  exact ⟨q, rfl, a1, a3, h2⟩
end
end Go.Proofs.YtfhcigjkfelnfaaGreat
/-
  What the audit of one page computes: steps and rosters.
-/
set_option maxRecDepth 100000
set_option linter.unusedVariables false
set_option linter.unusedSimpArgs false
namespace Go.Proofs.YtfhcigjkfelnfaaGreat
open Go AM
attribute [local irreducible] dueV stepV runV checkV answerV
theorem sane45 : law45_sane 1000 = some true := by kernel_rfl
section
variable {n : Nat} {c : D.Config} {b : D.Book} {p : D.Page} {Q : Int → D.Start → Prop} {M : Int}
theorem audSteps_is (hb : BookOK b) (h : PageInv Q M b p) : audit_Steps 1000 b p = some true := by
  have hpl := h.plen hb
  have hst := hpl.st
  obtain ⟨tt, gg, _⟩ := h.goes
  have hsc := gg.scan
  refine Ok.eq ?_
  unfold audit_Steps
  refine Ok.oe (check_is hb hpl) (Ok.nt (h.check hb) ?_)
  refine Ok.loop (fun m x => ∃ j : Nat, x = ((kN p.Starts j, tN p.Start p.Starts j, p.Starts, ((p.Starts.length : Nat) : Int), (j : Int), ()), p, ()) ∧ j ≤ p.Starts.length ∧ m = p.Starts.length - j) (m := p.Starts.length) (by omega) ⟨0, rfl, by omega, rfl⟩ ?_
  rintro m x ⟨j, rfl, jl, rfl⟩ K hK
  dsimp only
  have hkb : 0 ≤ kN p.Starts j ∧ kN p.Starts j ≤ 300 := by
    unfold kN
    have h1 := List.length_filter_le (fun s : D.Start => decide (0 ≤ s.K)) (p.Starts.take j)
    have h2 := List.length_take_le j p.Starts
    omega
  refine Ok.ite (fun hj => ?_) (fun hj => ?_)
  · have hlt : j < p.Starts.length := by omega
    refine Ok.j (Ok.atn hlt ?_)
    obtain ⟨s1, s2, s3, s4⟩ := hsc.2.2 j hlt
    have hks := kN_succ (l := p.Starts) hlt
    have hts := tN_succ (st := p.Start) (l := p.Starts) (i := j)
    obtain ⟨s, hs⟩ : ∃ s, nth p.Starts j = s := ⟨_, rfl⟩
    rw [hs] at s1 s2 s3 s4 hks hts ⊢
    refine Ok.join (fun y => y = ((kN p.Starts j, p.Starts, ((p.Starts.length : Nat) : Int), (j : Int), ()), p, s, ())) (fun y hy => ?_) (fun J hJ => ?_)
    · subst hy
      dsimp only
      rw [wrap_succ (by omega)]
      refine Ok.ite (fun g => ?_) (fun g => ?_)
      · rw [wrap_id (by omega)]
        refine hK _ _ (by omega) ⟨j + 1, ?_, by omega, rfl⟩
        rw [hks, hts, if_pos (by rcases s3 with ⟨e, _⟩ | ⟨_, e, _⟩ <;> omega)]
      · refine hK _ _ (by omega) ⟨j + 1, ?_, by omega, rfl⟩
        rw [hks, hts, if_neg (by omega), Int.add_zero]
    · have tail : Ok (AM.cnd (decide (s.K ≠ -1)) (AM.cnd (decide (s.K ≠ kN p.Starts j)) (some false) (J ((kN p.Starts j, p.Starts, ((p.Starts.length : Nat) : Int), (j : Int), ()), p, s, ()))) (J ((kN p.Starts j, p.Starts, ((p.Starts.length : Nat) : Int), (j : Int), ()), p, s, ()))) (· = true) :=
        Ok.ite (fun g => Ok.n (by rcases s3 with ⟨e, _⟩ | ⟨e, _⟩ <;> omega) (hJ _ rfl)) (fun g => hJ _ rfl)
      refine Ok.n (by omega) (Ok.ite (fun g => Ok.n ?_ tail) (fun g => tail))
      have h0 : j = 0 := by omega
      have h4 := s4 h0
      subst h0
      show ¬ s.At ≠ p.Start
      omega
  · obtain rfl : j = p.Starts.length := by omega
    refine Ok.s ?_
    rw [hsc.1]; simp
theorem find0_no {l : List Int} {k : Int} : audit_findings_0 1000 l k [false] = some l := by
  refine Ok.eq ?_
  unfold audit_findings_0
  refine Ok.run2 1 (fun i => (k, [false], 1, (i : Int), ())) rfl (by omega) (fun i hi k' hk => ?_) (fun k' => Ok.n (by simp) (Ok.s rfl))
  obtain rfl : i = 0 := by omega
  dsimp only
  exact Ok.p (by simp) (Ok.j (Ok.atn (i := 0) (by simp) (Ok.f hk)))
end
end Go.Proofs.YtfhcigjkfelnfaaGreat
/-
  Ledgers, in plain Lean: what operations make of them, and what they keep.
-/
set_option maxRecDepth 100000
set_option linter.unusedSimpArgs false
set_option linter.unusedVariables false
namespace Go.Proofs.YtfhcigjkfelnfaaGreat
open Go AM
def callsOf (id f : Int) (l : List D.Start) : List D.Call := l.flatMap fun s => s.People.map fun x => D.Call.mk id s.K s.At x f
theorem callsOf_append {id f : Int} {a b : List D.Start} : callsOf id f (a ++ b) = callsOf id f a ++ callsOf id f b := by unfold callsOf; rw [List.flatMap_append]
def unf (c : D.Call) : D.Call := { c with Fence := 0 }
theorem callsOf_unf {id f : Int} {l : List D.Start} : (callsOf id f l).map unf = callsOf id 0 l := by
  unfold callsOf
  rw [List.map_flatMap]
  congr 1
  funext s
  rw [List.map_map]; rfl
def ownC (id : Int) (l : List D.Call) : List D.Call := l.filter fun c => decide (c.Page = id)
theorem ownC_append {id : Int} {a b : List D.Call} : ownC id (a ++ b) = ownC id a ++ ownC id b := List.filter_append ..
theorem callsOf_page {id f : Int} {l : List D.Start} : ∀ c ∈ callsOf id f l, c.Page = id ∧ c.Fence = f := by
  intro c hc
  unfold callsOf at hc
  obtain ⟨s, _, hc⟩ := List.mem_flatMap.1 hc
  obtain ⟨x, _, rfl⟩ := List.mem_map.1 hc
  exact ⟨rfl, rfl⟩
theorem ownC_self {id f : Int} {l : List D.Start} : ownC id (callsOf id f l) = callsOf id f l := by
  unfold ownC
  exact List.filter_eq_self.2 fun c hc => by simpa using (callsOf_page c hc).1
theorem ownC_other {id i f : Int} {l : List D.Start} (h : i ≠ id) : ownC i (callsOf id f l) = [] := by
  unfold ownC
  exact List.filter_eq_nil_iff.2 fun c hc => by have := (callsOf_page c hc).1; simp; omega
structure Told (fence : Int) (p : D.Page) (l : List D.Call) : Prop where
  same : (ownC p.ID l).map unf = callsOf p.ID 0 p.Starts
  up : (ownC p.ID l).Pairwise fun x y => x.Fence ≤ y.Fence
  fit : ∀ c ∈ ownC p.ID l, 0 ≤ c.Fence ∧ c.Fence ≤ fence
theorem Told.mono {f g : Int} {p : D.Page} {l : List D.Call} (h : Told f p l) (hg : f ≤ g) : Told g p l := ⟨h.same, h.up, fun c hc => by have := h.fit c hc; omega⟩
theorem Told.more {f : Int} {p q : D.Page} {l : List D.Call} {m : List D.Start} (h : Told f p l) (hf : 0 ≤ f) (hid : q.ID = p.ID) (hs : q.Starts = p.Starts ++ m) : Told f q (l ++ callsOf p.ID f m) := by
  refine ⟨?_, ?_, ?_⟩
  · rw [hid, ownC_append, ownC_self, List.map_append, h.same, callsOf_unf, hs, callsOf_append]
  · rw [hid, ownC_append, ownC_self]
    refine List.pairwise_append.2 ⟨h.up, ?_, fun x hx y hy => ?_⟩
    · refine List.pairwise_iff_forall_sublist.2 fun {x y} hxy => ?_
      have h1 := (callsOf_page x (hxy.subset (by simp))).2
      have h2 := (callsOf_page y (hxy.subset (by simp))).2
      omega
    · have h1 := (h.fit x hx).2
      have h2 := (callsOf_page y hy).2
      omega
  · rw [hid, ownC_append, ownC_self]
    intro c hc
    rcases List.mem_append.1 hc with hc | hc
    · exact h.fit c hc
    · have := (callsOf_page c hc).2; omega
theorem Told.other {f id : Int} {p : D.Page} {l : List D.Call} {m : List D.Start} (h : Told f p l) (hid : p.ID ≠ id) : Told f p (l ++ callsOf id f m) := by
  have e : ownC p.ID (l ++ callsOf id f m) = ownC p.ID l := by rw [ownC_append, ownC_other hid, List.append_nil]
  exact ⟨by rw [e]; exact h.same, by rw [e]; exact h.up, by rw [e]; exact h.fit⟩
def AscP (l : List D.Page) : Prop := l.Pairwise fun p q => p.ID < q.ID
def posV (id : Int) : List D.Page → Nat
  | [] => 0
  | p :: r => if p.ID < id then posV id r + 1 else 0
theorem posV_le {id : Int} : ∀ {l : List D.Page}, posV id l ≤ l.length
  | [] => Nat.le_refl _
  | p :: r => by
    rw [posV]
    split
    · have := posV_le (id := id) (l := r); rw [List.length_cons]; omega
    · exact Nat.zero_le _
def hasV (id : Int) (l : List D.Page) : Bool := decide (posV id l < l.length ∧ (nth l (posV id l)).ID = id)
theorem nth_cons_succ {α : Type} [Inhabited α] {x : α} {l : List α} {i : Nat} : nth (x :: l) (i + 1) = nth l i := by simp [nth]
theorem nth_cons_zero {α : Type} [Inhabited α] {x : α} {l : List α} : nth (x :: l) 0 = x := by simp [nth]
theorem posV_lo {id : Int} : ∀ {l : List D.Page} {i : Nat}, i < posV id l → (nth l i).ID < id
  | [], i, h => by simp [posV] at h
  | p :: r, i, h => by
    rw [posV] at h
    split at h
    · rename_i hp
      cases i with
      | zero => rw [nth_cons_zero]; exact hp
      | succ i => rw [nth_cons_succ]; exact posV_lo (by omega)
    · omega
theorem posV_hi {id : Int} : ∀ {l : List D.Page}, AscP l → ∀ {i : Nat}, posV id l ≤ i → i < l.length → id ≤ (nth l i).ID
  | [], _, i, _, h => by simp at h
  | p :: r, ha, i, h1, h2 => by
    have ha' := List.pairwise_cons.1 ha
    rw [posV] at h1
    split at h1
    · cases i with
      | zero => omega
      | succ i => rw [nth_cons_succ]; exact posV_hi ha'.2 (by omega) (by simpa using h2)
    · cases i with
      | zero => rw [nth_cons_zero]; omega
      | succ i =>
        rw [nth_cons_succ]
        have := ha'.1 (nth r i) (nth_mem (by simpa using h2))
        omega
theorem ascP_nth {l : List D.Page} (h : AscP l) {i j : Nat} (hij : i < j) (hj : j < l.length) : (nth l i).ID < (nth l j).ID := by
  have := List.pairwise_iff_getElem.1 h i j (by omega) hj hij
  simpa [nth, List.getD_eq_getElem?_getD, List.getElem?_eq_getElem hj, List.getElem?_eq_getElem (show i < l.length by omega)] using this
theorem posV_at {l : List D.Page} (h : AscP l) {i : Nat} (hi : i < l.length) : posV (nth l i).ID l = i := by
  rcases Nat.lt_trichotomy (posV (nth l i).ID l) i with g | g | g
  · have := posV_hi h (Nat.le_refl (posV (nth l i).ID l)) (by omega)
    have := ascP_nth h g hi
    omega
  · exact g
  · have := posV_lo g; omega
theorem hasV_at {l : List D.Page} (h : AscP l) {i : Nat} (hi : i < l.length) : hasV (nth l i).ID l = true := by
  unfold hasV; rw [posV_at h hi]; simp [hi]
theorem hasV_no {id : Int} {l : List D.Page} (ha : AscP l) (h : hasV id l = false) : ∀ p ∈ l, p.ID ≠ id := by
  intro p hp e
  obtain ⟨i, hi, rfl⟩ := List.getElem_of_mem hp
  have e1 : nth l i = l[i] := by simp [nth, List.getD_eq_getElem?_getD, List.getElem?_eq_getElem hi]
  have := hasV_at ha hi
  rw [e1, e, h] at this
  simp at this
def insP (l : List D.Page) (p : D.Page) : List D.Page := l.take (posV p.ID l) ++ p :: l.drop (posV p.ID l)
theorem posV_lt {id : Int} : ∀ {l : List D.Page}, ∀ p ∈ l.take (posV id l), p.ID < id
  | [], p, h => by simp at h
  | q :: r, p, h => by
    rw [posV] at h
    split at h
    · rename_i hq
      rw [List.take_succ_cons] at h
      rcases List.mem_cons.1 h with rfl | h
      · exact hq
      · exact posV_lt p h
    · simp at h
theorem posV_gt {id : Int} : ∀ {l : List D.Page}, AscP l → ∀ p ∈ l.drop (posV id l), id ≤ p.ID
  | [], _, p, h => by simp at h
  | q :: r, ha, p, h => by
    have ha' := List.pairwise_cons.1 ha
    rw [posV] at h
    split at h
    · rw [List.drop_succ_cons] at h; exact posV_gt ha'.2 p h
    · rename_i hq
      rw [List.drop_zero] at h
      rcases List.mem_cons.1 h with rfl | h
      · omega
      · have := ha'.1 p h; omega
theorem insP_asc {l : List D.Page} {p : D.Page} (h : AscP l) (hn : hasV p.ID l = false) : AscP (insP l p) := by
  have hne := hasV_no h hn
  refine List.pairwise_append.2 ⟨h.sublist (List.take_sublist ..), List.pairwise_cons.2 ⟨fun q hq => ?_, h.sublist (List.drop_sublist ..)⟩, fun q hq r hr => ?_⟩
  · have := posV_gt h q hq
    have := hne q (List.mem_of_mem_drop hq)
    omega
  · have h1 := posV_lt q hq
    rcases List.mem_cons.1 hr with rfl | hr
    · exact h1
    · have := posV_gt h r hr; omega
theorem insP_mem {l : List D.Page} {p q : D.Page} : q ∈ insP l p ↔ q = p ∨ q ∈ l := by
  unfold insP
  rw [List.mem_append, List.mem_cons]
  constructor
  · rintro (h | h | h)
    · exact .inr (List.mem_of_mem_take h)
    · exact .inl h
    · exact .inr (List.mem_of_mem_drop h)
  · rintro (h | h)
    · exact .inr (.inl h)
    · have h2 := h
      rw [← List.take_append_drop (posV p.ID l) l] at h2
      rcases List.mem_append.1 h2 with h2 | h2
      · exact .inl h2
      · exact .inr (.inr h2)
theorem setP_asc {l : List D.Page} {i : Nat} {p : D.Page} (h : AscP l) (hi : i < l.length) (hp : p.ID = (nth l i).ID) : AscP (l.set i p) := by
  have e : ∀ j, j < l.length → (nth (l.set i p) j).ID = (nth l j).ID := fun j hj => by
    by_cases hij : j = i
    · subst hij; simp [nth, List.getD_eq_getElem?_getD, hi] at hp ⊢; exact hp
    · simp [nth, List.getD_eq_getElem?_getD, List.getElem?_set, Ne.symm hij]
  refine List.pairwise_iff_getElem.2 fun j k hj hk hjk => ?_
  have hj' : j < l.length := by simpa using hj
  have hk' : k < l.length := by simpa using hk
  have h1 := e j hj'; have h2 := e k hk'
  have h3 := ascP_nth h hjk hk'
  have g1 : nth (l.set i p) j = (l.set i p)[j] := by simp only [nth, List.getD_eq_getElem?_getD, List.getElem?_eq_getElem hj, Option.getD_some]
  have g2 : nth (l.set i p) k = (l.set i p)[k] := by simp only [nth, List.getD_eq_getElem?_getD, List.getElem?_eq_getElem hk, Option.getD_some]
  rw [g1] at h1; rw [g2] at h2
  omega
structure SeenOK (l : List Int) (n : Nat) : Prop where
  len : l.length ≤ n
  nodup : l.Nodup
  fit : ∀ x ∈ l, 1 ≤ x ∧ x ≤ 1099511627776
theorem SeenOK.snoc {l : List Int} {n : Nat} {x : Int} (h : SeenOK l n) (h1 : 1 ≤ x ∧ x ≤ 1099511627776) (h2 : l.contains x = false) : SeenOK (l ++ [x]) (n + 1) := by
  refine ⟨by have := h.len; simp; omega, List.nodup_append.2 ⟨h.nodup, by simp, fun y hy z hz e => ?_⟩, fun y hy => ?_⟩
  · rw [List.mem_singleton.1 hz] at e
    subst e
    rw [List.contains_iff_mem.2 hy] at h2; simp at h2
  · rcases List.mem_append.1 hy with hy | hy
    · exact h.fit y hy
    · rw [List.mem_singleton.1 hy]; exact h1
def QT : Int → D.Start → Prop := fun _ s => s.People.length ≤ 4
theorem QT.step {M : Int} {c : D.Config} {b : D.Book} : StepQ QT M c b := fun _ _ _ _ => callV_len
theorem Goes.short {Q : D.Start → Prop} {st k t h : Int} {l : List D.Start} (hq : ∀ s, Q s → s.People.length ≤ 4) (g : Goes Q st l k t h) : ∀ s ∈ l, s.People.length ≤ 4 := by
  induction g with
  | nil => intro s hs; simp at hs
  | step g h1 h2 h3 h4 ih =>
    intro s hs
    rcases List.mem_append.1 hs with hs | hs
    · exact ih s hs
    · rw [List.mem_singleton.1 hs]; exact hq _ h4
  | hand g h1 h2 h3 h4 ih =>
    intro s hs
    rcases List.mem_append.1 hs with hs | hs
    · exact ih s hs
    · rw [List.mem_singleton.1 hs]; simp
structure LedgerInv (M : Int) (n : Nat) (l : D.Ledger) : Prop where
  top : M ≤ 8000000000
  now : 0 ≤ l.Now ∧ l.Now ≤ M - 20000
  small : n ≤ 48
  cfg : CfgOK n l.Config
  book : BookOK l.Book
  page : ∀ p ∈ l.Pages, PageInv QT M l.Book p ∧ p.Last ≤ l.Now
  asc : AscP l.Pages
  len : l.Pages.length ≤ 64
  owner : -1 ≤ l.Owner ∧ l.Owner ≤ 4
  fence : 0 ≤ l.Fence ∧ l.Fence ≤ (l.Seen.length : Int)
  seen : SeenOK l.Seen 256
  told : ∀ p ∈ l.Pages, Told l.Fence p l.Calls
  all : ∀ c ∈ l.Calls, ∃ p ∈ l.Pages, p.ID = c.Page
def putV (l : D.Ledger) (i : Nat) (p : D.Page) : D.Ledger :=
  { l with Pages := l.Pages.set i p, Calls := l.Calls ++ callsOf p.ID l.Fence (p.Starts.drop (nth l.Pages i).Starts.length) }
def runI (l : D.Ledger) (i : Nat) : D.Ledger := if (runV l.Config l.Book (nth l.Pages i) l.Now).2 ≠ 0 then l else putV l i (runV l.Config l.Book (nth l.Pages i) l.Now).1
def runAll (l : D.Ledger) : Nat → D.Ledger
  | 0 => l
  | k + 1 => runI (runAll l k) k
def editV (c : D.Config) (i : Int) (x : D.Edit) : D.Config :=
  { c with Schedules := c.Schedules.set i.toNat { nth c.Schedules i.toNat with Edits := (nth c.Schedules i.toNat).Edits ++ [x] } }
def opV (l : D.Ledger) (o : D.Op) : D.Ledger × Int :=
  if o.Kind = 1 then
    (if hasV o.Page l.Pages = true then (l, 4) else if l.Pages.length = 64 then (l, 5) else if o.Page < 1 then (l, 1)
     else if 0 ≤ o.Policy ∧ o.Policy < (l.Book.Policies.length : Int) then (runI { l with Pages := insP l.Pages (newP o.Page o.Policy l.Now) } (posV o.Page l.Pages), 0) else (l, 3))
  else if o.Kind = 2 then (if o.Fence = l.Fence + 1 then ({ l with Owner := o.Region, Fence := o.Fence }, 0) else (l, 23))
  else if o.Kind = 3 then
    (if o.Region = l.Owner ∧ o.Fence = l.Fence then
      (if hasV o.Page l.Pages = true then
        (if waitB (nth l.Pages (posV o.Page l.Pages)) l.Now = true ∧ o.K = (if (nth l.Pages (posV o.Page l.Pages)).State = 2 then -1 else (nth l.Pages (posV o.Page l.Pages)).Next) then (runI l (posV o.Page l.Pages), 0) else (l, 9))
       else (l, 3))
     else (l, 23))
  else if o.Kind = 4 then
    (if hasV o.Answer.Page l.Pages = true then
      (if (answerV l.Book (nth (runI l (posV o.Answer.Page l.Pages)).Pages (posV o.Answer.Page l.Pages)) { o.Answer with At := l.Now }).2 = 0 then
         (putV (runI l (posV o.Answer.Page l.Pages)) (posV o.Answer.Page l.Pages) (answerV l.Book (nth (runI l (posV o.Answer.Page l.Pages)).Pages (posV o.Answer.Page l.Pages)) { o.Answer with At := l.Now }).1, 0)
       else (runI l (posV o.Answer.Page l.Pages), (answerV l.Book (nth (runI l (posV o.Answer.Page l.Pages)).Pages (posV o.Answer.Page l.Pages)) { o.Answer with At := l.Now }).2))
     else (l, 3))
  else if 0 ≤ o.Schedule ∧ o.Schedule < 2 then ({ runAll l l.Pages.length with Config := editV l.Config o.Schedule o.Edit }, 0) else (runAll l l.Pages.length, 3)
def applyV (l : D.Ledger) (o : D.Op) : D.Ledger × Int :=
  if l.Seen.contains o.ID = true then (l, 0) else opV { l with Now := max l.Now o.At, Seen := l.Seen ++ [o.ID] } o
section
variable {M : Int} {n : Nat} {l : D.Ledger} {i : Nat} {p q : D.Page} {b : D.Book} {c : D.Config} {now : Int}
def Ext (p q : D.Page) : Prop := ∃ m, q.Starts = p.Starts ++ m
theorem Ext.refl (p : D.Page) : Ext p p := ⟨[], by simp⟩
theorem Ext.step (h : Ext p q) : Ext p (stepQ c b q) := by
  obtain ⟨m, hm⟩ := h
  unfold stepQ
  split
  · exact ⟨m, hm⟩
  · split
    · exact ⟨m, hm⟩
    · exact ⟨m ++ [_], by dsimp only; rw [hm, List.append_assoc]⟩
theorem runV_ext (hb : BookOK b) (h : PageInv QT M b p) : Ext p (runV c b p now).1 :=
  runV_ind hb QT.step (fun q _ _ hr => hr.step) h (Ext.refl p)
theorem answerQ_ext {a : D.Answer} : Ext p (answerQ p a) := by
  by_cases h : a.Kind = 4
  · exact ⟨_, answerQ_len.1 h⟩
  · exact ⟨[], by rw [answerQ_len.2 h]; simp⟩
theorem putV_calls (hx : Ext (nth l.Pages i) p) : ∃ m, p.Starts = (nth l.Pages i).Starts ++ m ∧ (putV l i p).Calls = l.Calls ++ callsOf p.ID l.Fence m := by
  obtain ⟨m, hm⟩ := hx
  refine ⟨m, hm, ?_⟩
  unfold putV
  dsimp only
  rw [hm, List.drop_left]
theorem nth_set_self {α : Type} [Inhabited α] {l : List α} {i : Nat} {x : α} (h : i < l.length) : nth (l.set i x) i = x := by
  simp [nth, List.getD_eq_getElem?_getD, h]
theorem nth_set_ne {α : Type} [Inhabited α] {l : List α} {i j : Nat} {x : α} (h : j ≠ i) : nth (l.set i x) j = nth l j := by
  simp [nth, List.getD_eq_getElem?_getD, List.getElem?_set, Ne.symm h]
theorem mem_nth {α : Type} [Inhabited α] {l : List α} {x : α} (h : x ∈ l) : ∃ i, i < l.length ∧ nth l i = x := by
  obtain ⟨i, hi, e⟩ := List.getElem_of_mem h
  exact ⟨i, hi, by simp [nth, List.getD_eq_getElem?_getD, List.getElem?_eq_getElem hi, e]⟩
theorem LedgerInv.put (h : LedgerInv M n l) (hi : i < l.Pages.length) (hp : PageInv QT M l.Book p) (hl : p.Last ≤ l.Now) (hid : p.ID = (nth l.Pages i).ID) (hx : Ext (nth l.Pages i) p) : LedgerInv M n (putV l i p) := by
  obtain ⟨m, hm, hc⟩ := putV_calls hx
  have hf := h.fence
  have hpage : ∀ q ∈ (l.Pages.set i p), q = p ∨ (q ∈ l.Pages ∧ q.ID ≠ p.ID) := by
    intro q hq
    obtain ⟨j, hj, rfl⟩ := mem_nth hq
    rw [List.length_set] at hj
    by_cases e : j = i
    · subst e; rw [nth_set_self hj]; exact .inl rfl
    · rw [nth_set_ne e]
      refine .inr ⟨nth_mem hj, fun e2 => ?_⟩
      rw [hid] at e2
      have h1 := posV_at h.asc hj
      have h2 := posV_at h.asc hi
      rw [e2] at h1; omega
  refine ⟨h.top, h.now, h.small, h.cfg, h.book, fun q hq => ?_, setP_asc h.asc hi hid, by show (l.Pages.set i p).length ≤ 64; rw [List.length_set]; exact h.len, h.owner, h.fence, h.seen, fun q hq => ?_, fun x hx => ?_⟩
  · rcases hpage q hq with rfl | ⟨hq, _⟩
    · exact ⟨hp, hl⟩
    · exact h.page q hq
  · rw [hc]
    show Told l.Fence q _
    rcases hpage q hq with rfl | ⟨hq, hne⟩
    · exact hid ▸ (h.told _ (nth_mem hi)).more hf.1 hid hm
    · exact (h.told q hq).other hne
  · rw [hc] at hx
    show ∃ q ∈ l.Pages.set i p, q.ID = x.Page
    rcases List.mem_append.1 hx with hx | hx
    · obtain ⟨q, hq, e⟩ := h.all x hx
      obtain ⟨j, hj, rfl⟩ := mem_nth hq
      by_cases e2 : j = i
      · subst e2; exact ⟨p, by have := nth_mem (l := l.Pages.set j p) (i := j) (by simpa using hj); rwa [nth_set_self hj] at this, by rw [hid, e]⟩
      · exact ⟨_, by have := nth_mem (l := l.Pages.set i p) (i := j) (by simpa using hj); rwa [nth_set_ne e2] at this, e⟩
    · exact ⟨p, by have := nth_mem (l := l.Pages.set i p) (i := i) (by simpa using hi); rwa [nth_set_self hi] at this, (callsOf_page x hx).1.symm⟩
theorem LedgerInv.at (h : LedgerInv M n l) (hi : i < l.Pages.length) : PageInv QT M l.Book (nth l.Pages i) ∧ (nth l.Pages i).Last ≤ l.Now := h.page _ (nth_mem hi)
theorem LedgerInv.runEq (h : LedgerInv M n l) (hi : i < l.Pages.length) : runI l i = putV l i (runV l.Config l.Book (nth l.Pages i) l.Now).1 := by
  unfold runI
  rw [(runV_inv h.book QT.step (h.at hi).1).2.1, if_neg (by simp)]
theorem LedgerInv.run (h : LedgerInv M n l) (hi : i < l.Pages.length) : LedgerInv M n (runI l i) := by
  rw [h.runEq hi]
  have hp := h.at hi
  exact h.put hi (runV_inv h.book QT.step hp.1).1 (runV_last h.book QT.step hp.1 hp.2) (runV_kept h.book QT.step hp.1).id (runV_ext h.book hp.1)
theorem runI_keep : (runI l i).Now = l.Now ∧ (runI l i).Config = l.Config ∧ (runI l i).Book = l.Book ∧ (runI l i).Owner = l.Owner ∧ (runI l i).Fence = l.Fence ∧ (runI l i).Seen = l.Seen ∧ (runI l i).Pages.length = l.Pages.length := by
  unfold runI putV
  split
  · exact ⟨rfl, rfl, rfl, rfl, rfl, rfl, rfl⟩
  · exact ⟨rfl, rfl, rfl, rfl, rfl, rfl, by simp⟩
theorem runI_page (h : LedgerInv M n l) (hi : i < l.Pages.length) {j : Nat} : nth (runI l i).Pages j = if j = i then (runV l.Config l.Book (nth l.Pages i) l.Now).1 else nth l.Pages j := by
  rw [h.runEq hi]
  unfold putV
  dsimp only
  split
  · rename_i e; subst e; rw [nth_set_self hi]
  · rename_i e; rw [nth_set_ne e]
theorem runAll_keep : ∀ {k : Nat}, (runAll l k).Now = l.Now ∧ (runAll l k).Config = l.Config ∧ (runAll l k).Book = l.Book ∧ (runAll l k).Owner = l.Owner ∧ (runAll l k).Fence = l.Fence ∧ (runAll l k).Seen = l.Seen ∧ (runAll l k).Pages.length = l.Pages.length
  | 0 => ⟨rfl, rfl, rfl, rfl, rfl, rfl, rfl⟩
  | k + 1 => by
    have h1 := runI_keep (l := runAll l k) (i := k)
    have h2 := runAll_keep (k := k)
    rw [runAll]
    exact ⟨h1.1.trans h2.1, h1.2.1.trans h2.2.1, h1.2.2.1.trans h2.2.2.1, h1.2.2.2.1.trans h2.2.2.2.1, h1.2.2.2.2.1.trans h2.2.2.2.2.1, h1.2.2.2.2.2.1.trans h2.2.2.2.2.2.1, h1.2.2.2.2.2.2.trans h2.2.2.2.2.2.2⟩
theorem LedgerInv.runs (h : LedgerInv M n l) : ∀ {k : Nat}, k ≤ l.Pages.length → LedgerInv M n (runAll l k)
  | 0, _ => h
  | k + 1, hk => by
    have h2 := runAll_keep (l := l) (k := k)
    exact (h.runs (k := k) (by omega)).run (by omega)
theorem editV_ok {x : D.Edit} {s : Int} (h : CfgOK n c) (hx : EditOK x) (hs : 0 ≤ s ∧ s < 2) : CfgOK (n + 1) (editV c s x) := by
  have hsl := h.slen
  have hi : s.toNat < c.Schedules.length := by omega
  have hso := h.sched _ (nth_mem hi)
  refine ⟨h.zone, h.pname, h.person, h.cal, ?_, fun y hy => ?_⟩
  · rw [← h.sname]
    unfold editV
    dsimp only
    refine List.ext_getElem (by simp) fun j h1 h2 => ?_
    simp only [List.getElem_map, List.getElem_set]
    split
    · rename_i e; subst e
      simp [nth, List.getD_eq_getElem?_getD, List.getElem?_eq_getElem hi]
    · rfl
  · obtain ⟨j, hj, rfl⟩ := mem_nth hy
    have hj : j < (c.Schedules.set s.toNat _).length := hj
    rw [List.length_set] at hj
    show SchedOK (n + 1) (nth (c.Schedules.set s.toNat _) j)
    by_cases e : j = s.toNat
    · subst e
      rw [nth_set_self hi]
      exact ⟨hso.layers, by have := hso.len; simp; omega, fun z hz => by
        rcases List.mem_append.1 hz with hz | hz
        · exact hso.edit z hz
        · rw [List.mem_singleton.1 hz]; exact hx⟩
    · rw [nth_set_ne e]
      have := h.sched _ (nth_mem hj)
      exact ⟨this.layers, by have := this.len; omega, this.edit⟩
structure OpIn (o : D.Op) : Prop where
  id : 1 ≤ o.ID ∧ o.ID ≤ 1099511627776
  kind : 1 ≤ o.Kind ∧ o.Kind ≤ 5
  region : 0 ≤ o.Region ∧ o.Region ≤ 4
  fence : 0 ≤ o.Fence ∧ o.Fence ≤ 1048576
  at_ : 0 ≤ o.At ∧ o.At ≤ 8589934592
  page : 0 ≤ o.Page ∧ o.Page ≤ 999999
  k : -1 ≤ o.K ∧ o.K ≤ 1000
  answer : o.Kind = 4 → validV o.Answer = true ∧ (o.Answer.Kind = 3 → o.Answer.Arg ≤ 5000)
  edit : o.Kind = 5 → EditOK o.Edit
theorem validV_at {a : D.Answer} {t : Int} (h : validV a = true) (ht : 0 ≤ t ∧ t ≤ 8589934592) : validV { a with At := t } = true := by
  unfold validV at h ⊢
  simp only [Bool.and_eq_true, inV_is] at h ⊢
  exact ⟨⟨⟨⟨⟨h.1.1.1.1.1, h.1.1.1.1.2⟩, h.1.1.1.2⟩, ht⟩, h.1.2⟩, h.2⟩
theorem LedgerInv.see {o : D.Op} (h : LedgerInv M n l) (ho : OpIn o) (hn : max l.Now o.At ≤ M - 20000) (hs : l.Seen.contains o.ID = false) (hl : l.Seen.length < 256) : LedgerInv M n { l with Now := max l.Now o.At, Seen := l.Seen ++ [o.ID] } := by
  have hnow := h.now; have hf := h.fence
  refine ⟨h.top, ⟨by dsimp only; omega, hn⟩, h.small, h.cfg, h.book, fun p hp => ⟨(h.page p hp).1, by have := (h.page p hp).2; dsimp only; omega⟩, h.asc, h.len, h.owner, ⟨hf.1, by dsimp only; rw [List.length_append]; simp; omega⟩, ?_, h.told, h.all⟩
  have := h.seen.snoc ho.id hs
  exact ⟨by dsimp only; simp; omega, this.nodup, this.fit⟩
theorem LedgerInv.open {o : D.Op} (h : LedgerInv M n l) (hp : hasV o.Page l.Pages = false) (h1 : 1 ≤ o.Page ∧ o.Page ≤ 999999) (h2 : 0 ≤ o.Policy ∧ o.Policy < (l.Book.Policies.length : Int)) (hl : l.Pages.length < 64) :
    LedgerInv M n { l with Pages := insP l.Pages (newP o.Page o.Policy l.Now) } ∧ posV o.Page l.Pages < (insP l.Pages (newP o.Page o.Policy l.Now)).length ∧ nth (insP l.Pages (newP o.Page o.Policy l.Now)) (posV o.Page l.Pages) = newP o.Page o.Policy l.Now := by
  have hnow := h.now
  have hnew : PageInv QT M l.Book (newP o.Page o.Policy l.Now) := new_inv h.top h.book h1 h2 hnow
  have hlen : (insP l.Pages (newP o.Page o.Policy l.Now)).length = l.Pages.length + 1 := by
    unfold insP; rw [List.length_append, List.length_cons, List.length_take, List.length_drop]
    have := posV_le (id := o.Page) (l := l.Pages)
    show min (posV o.Page l.Pages) _ + (_ - posV o.Page l.Pages + 1) = _
    omega
  have hpos := posV_le (id := o.Page) (l := l.Pages)
  refine ⟨⟨h.top, h.now, h.small, h.cfg, h.book, fun q hq => ?_, insP_asc h.asc hp, by dsimp only; omega, h.owner, h.fence, h.seen, fun q hq => ?_, fun x hx => ?_⟩, by omega, ?_⟩
  · rcases insP_mem.1 hq with rfl | hq
    · exact ⟨hnew, Int.le_refl _⟩
    · exact h.page q hq
  · rcases insP_mem.1 hq with rfl | hq
    · have e : ownC o.Page l.Calls = [] := List.filter_eq_nil_iff.2 fun x hx => by
        obtain ⟨q, hq, e⟩ := h.all x hx
        have := hasV_no h.asc hp q hq
        simp; omega
      exact ⟨by show (ownC o.Page l.Calls).map unf = _; rw [e]; rfl, by show (ownC o.Page l.Calls).Pairwise _; rw [e]; exact List.Pairwise.nil, by show ∀ x ∈ ownC o.Page l.Calls, _; rw [e]; simp⟩
    · exact h.told q hq
  · obtain ⟨q, hq, e⟩ := h.all x hx
    exact ⟨q, insP_mem.2 (.inr hq), e⟩
  · unfold insP
    show nth (l.Pages.take (posV o.Page l.Pages) ++ _ :: _) (posV o.Page l.Pages) = _
    simp [nth, List.getD_eq_getElem?_getD, List.getElem?_append, Nat.min_eq_left hpos]
theorem LedgerInv.own {o : D.Op} (h : LedgerInv M n l) (ho : OpIn o) (hf : o.Fence = l.Fence + 1) (hs : l.Fence < (l.Seen.length : Int)) : LedgerInv M n { l with Owner := o.Region, Fence := o.Fence } := by
  have hr := ho.region; have h0 := h.fence
  exact ⟨h.top, h.now, h.small, h.cfg, h.book, h.page, h.asc, h.len, ⟨by dsimp only; omega, by dsimp only; omega⟩, ⟨by dsimp only; omega, by dsimp only; omega⟩, h.seen, fun p hp => (h.told p hp).mono (by dsimp only; omega), h.all⟩
theorem LedgerInv.edit {o : D.Op} (h : LedgerInv M n l) (hn : n < 48) (hx : EditOK o.Edit) (hs : 0 ≤ o.Schedule ∧ o.Schedule < 2) : LedgerInv M (n + 1) { l with Config := editV l.Config o.Schedule o.Edit } :=
  ⟨h.top, h.now, by omega, editV_ok h.cfg hx hs, h.book, h.page, h.asc, h.len, h.owner, h.fence, h.seen, h.told, h.all⟩
theorem LedgerInv.wide (h : LedgerInv M n l) (hn : n < 48) : LedgerInv M (n + 1) l :=
  ⟨h.top, h.now, by omega, h.cfg.mono (by omega), h.book, h.page, h.asc, h.len, h.owner, h.fence, h.seen, h.told, h.all⟩
theorem hasV_is {id : Int} (h : hasV id l.Pages = true) : posV id l.Pages < l.Pages.length ∧ (nth l.Pages (posV id l.Pages)).ID = id := by
  unfold hasV at h; exact of_decide_eq_true h
theorem LedgerInv.answer {a : D.Answer} (h : LedgerInv M n l) (hi : i < l.Pages.length) (ha : a.At = l.Now) (hv : validV a = true) (hs : a.Kind = 3 → a.Arg ≤ 5000) (hr : (answerV l.Book (nth l.Pages i) a).2 = 0) : LedgerInv M n (putV l i (answerV l.Book (nth l.Pages i) a).1) := by
  have hp := h.at hi
  have hc := hp.1.check h.book
  have hnow := h.now
  revert hr
  unfold answerV
  rw [hc, hv, if_neg (by simp)]
  split
  · intro e; simp at e
  · split
    · intro _; exact h.put hi hp.1 hp.2 rfl (Ext.refl _)
    · rename_i hs2
      split
      · rename_i hre; intro e; exact absurd e hre
      · rename_i hre
        intro _
        have hre : refusedV (nth l.Pages i) a = 0 := by simpa using hre
        have h0 := refused_none hre
        exact h.put hi (hp.1.answerQ_inv h.book hv (by omega) hs (by simpa using hs2) hre) (by rw [← ha]; exact answerQ_last h0.1) answerQ_id.1 answerQ_ext
theorem LedgerInv.op {o : D.Op} (h : LedgerInv M n l) (hn : n < 48) (ho : OpIn o) (hs : l.Fence < (l.Seen.length : Int)) : LedgerInv M (n + 1) (opV l o).1 := by
  have hw := h.wide hn
  have hk := ho.kind
  unfold opV
  split
  · split
    · exact hw
    · rename_i hp
      split
      · exact hw
      · split
        · exact hw
        · split
          · rename_i h1 h2 h3
            have h4 := ho.page; have h5 := h.len
            have := hw.open (o := o) (by simpa using hp) (by omega) h3 (by omega)
            exact this.1.run this.2.1
          · exact hw
  · split
    · split
      · rename_i hf
        exact hw.own ho hf hs
      · exact hw
    · split
      · split
        · split
          · rename_i hp
            generalize (if (nth l.Pages (posV o.Page l.Pages)).State = 2 then (-1 : Int) else (nth l.Pages (posV o.Page l.Pages)).Next) = kk
            split
            · exact hw.run (hasV_is hp).1
            · exact hw
          · exact hw
        · exact hw
      · split
        · rename_i k4
          split
          · rename_i hp
            have hi := (hasV_is hp).1
            have hr := hw.run hi
            have hkp := runI_keep (l := l) (i := posV o.Answer.Page l.Pages)
            have ha := ho.answer k4
            have hnow := h.now; have htop := h.top
            split
            · rename_i he
              have := hr.answer (i := posV o.Answer.Page l.Pages) (a := { o.Answer with At := l.Now }) (by omega) hkp.1.symm (validV_at ha.1 (by omega)) ha.2 (by rw [hkp.2.2.1]; exact he)
              rw [hkp.2.2.1] at this
              exact this
            · exact hr
          · exact hw
        · have he := ho.edit (by omega)
          split
          · rename_i hsch
            have h3 := h.runs (Nat.le_refl _)
            have h4 := runAll_keep (l := l) (k := l.Pages.length)
            have := h3.edit hn he hsch
            rw [h4.2.1] at this
            exact this
          · exact hw.runs (Nat.le_refl _)
theorem LedgerInv.apply {o : D.Op} (h : LedgerInv M n l) (hn : n < 48) (ho : OpIn o) (ht : max l.Now o.At ≤ M - 20000) (hl : l.Seen.length < 256) : LedgerInv M (n + 1) (applyV l o).1 := by
  unfold applyV
  split
  · exact h.wide hn
  · rename_i hs
    exact (h.see ho ht (by simpa using hs) hl).op hn ho (by dsimp only; have := h.fence; rw [List.length_append]; simp; omega)
end
end Go.Proofs.YtfhcigjkfelnfaaGreat
/-
  Ledgers looked at: what the reference's calls and checks compute.
-/
set_option maxRecDepth 100000
set_option linter.unusedVariables false
set_option linter.unusedSimpArgs false
namespace Go.Proofs.YtfhcigjkfelnfaaGreat
open Go AM
attribute [local irreducible] dueV stepV runV checkV answerV
section
variable {n : Nat} {c : D.Config} {b : D.Book} {p q : D.Page} {now M : Int} {l : D.Ledger}
theorem callsOf_len {id f : Int} {m : Nat} : ∀ {l : List D.Start}, (∀ s ∈ l, s.People.length ≤ m) → (callsOf id f l).length ≤ m * l.length
  | [], _ => by simp [callsOf]
  | s :: l, h => by
    have := callsOf_len (id := id) (f := f) (l := l) fun x hx => h x (List.mem_cons_of_mem _ hx)
    have h1 := h s (List.mem_cons_self ..)
    unfold callsOf at this ⊢
    rw [List.flatMap_cons, List.length_append, List.length_map, List.length_cons, Nat.mul_succ]; omega
theorem callsOf_snoc {id f : Int} {l : List D.Start} {s : D.Start} : callsOf id f (l ++ [s]) = callsOf id f l ++ s.People.map fun x => D.Call.mk id s.K s.At x f := by
  rw [callsOf_append]; unfold callsOf; simp
theorem nth_drop {α : Type} [Inhabited α] {l : List α} {k j : Nat} : nth (l.drop k) j = nth l (k + j) := by
  simp [nth, List.getD_eq_getElem?_getD, List.getElem?_drop]
theorem calls_is (h : PageLen p) {k : Nat} {f : Int} (hk : k ≤ p.Starts.length) : r31_calls 1000 p (k : Int) f = some (callsOf p.ID f (p.Starts.drop k)) := by
  have hst := h.st
  refine Ok.eq ?_
  unfold r31_calls
  refine Ok.run (p.Starts.length - k) (fun j => ((f, ((k + j : Nat) : Int), ()), p, callsOf p.ID f ((p.Starts.drop k).take j), ())) rfl (by omega) (fun j hj kk hkk => ?_) (fun kk => ?_)
  · try dsimp only
    have hlt : k + j < p.Starts.length := by omega
    refine Ok.p (by omega) (Ok.atn hlt ?_)
    have hpe := (h.pe _ (nth_mem hlt)).1
    have hdl : j < (p.Starts.drop k).length := by simp; omega
    have hts : (p.Starts.drop k).take (j + 1) = (p.Starts.drop k).take j ++ [nth p.Starts (k + j)] := by rw [← take_snoc' hdl, nth_drop]
    have hol : (callsOf p.ID f ((p.Starts.drop k).take j)).length ≤ 40 * ((p.Starts.drop k).take j).length := callsOf_len (m := 40) fun s hs => (h.pe s (List.mem_of_mem_drop (List.mem_of_mem_take hs))).1
    rw [List.length_take] at hol
    obtain ⟨s, hs⟩ : ∃ s, nth p.Starts (k + j) = s := ⟨_, rfl⟩
    rw [hs] at hpe hts ⊢
    refine Ok.run s.People.length (fun z => ((f, ((k + j : Nat) : Int), (z : Int), ()), p, s, callsOf p.ID f ((p.Starts.drop k).take j) ++ (s.People.take z).map (fun x => D.Call.mk p.ID s.K s.At x f), ())) (by rw [List.take_zero, List.map_nil, List.append_nil]; rfl) (by omega) (fun z hz k2 hk2 => ?_) (fun k2 => ?_)
    · try dsimp only
      refine Ok.p (by omega) (Ok.atn hz (Ok.lec ?_ ?_))
      · simp only [List.length_append, List.length_map, List.length_take, List.length_cons, List.length_nil]; omega
      · try dsimp only
        rw [wrap_succ (by omega)]
        try dsimp only at hk2
        rw [← take_snoc' hz, List.map_append, ← List.append_assoc] at hk2
        exact hk2
    · try dsimp only
      refine Ok.n (by omega) ?_
      try dsimp only
      rw [wrap_succ (by omega), List.take_length]
      try dsimp only at hkk
      rw [hts, callsOf_snoc] at hkk
      exact hkk
  · try dsimp only
    refine Ok.n (by omega) (Ok.s ?_)
    rw [List.take_of_length_le (by simp)]
theorem ownC_take_succ {id : Int} {cs : List D.Call} {i : Nat} (hi : i < cs.length) : ownC id (cs.take (i + 1)) = ownC id (cs.take i) ++ (if (nth cs i).Page = id then [nth cs i] else []) := by
  rw [← take_snoc' hi, ownC_append]
  congr 1
  unfold ownC
  by_cases h : (nth cs i).Page = id
  · simp [h]
  · simp [h]
theorem told_is (h : PageLen p) (hl : l.Calls.length ≤ 900) (ht : Told l.Fence p l.Calls) : r31_told 1000 l p = some true := by
  have hW := ht.same
  obtain ⟨W, hWe⟩ : ∃ W, callsOf p.ID 0 p.Starts = W := ⟨_, rfl⟩
  rw [hWe] at hW
  have hWl : W.length = (ownC p.ID l.Calls).length := by rw [← hW, List.length_map]
  have hol : ∀ i, (ownC p.ID (l.Calls.take i)).length ≤ 900 := fun i => by
    unfold ownC
    exact Nat.le_trans (List.length_filter_le _ _) (by rw [List.length_take]; omega)
  refine Ok.eq ?_
  unfold r31_told
  have hc := calls_is (k := 0) (f := 0) h (Nat.zero_le _)
  rw [List.drop_zero, hWe] at hc
  refine Ok.oe hc ?_
  refine Ok.loop (fun m x => ∃ (i : Nat) (fe : Int), x = ((W, ((ownC p.ID (l.Calls.take i)).length : Int), fe, (i : Int), ()), l, p, ()) ∧ i ≤ l.Calls.length ∧ (fe = 0 ∨ ∃ c ∈ ownC p.ID (l.Calls.take i), c.Fence = fe) ∧ m = l.Calls.length - i) (m := l.Calls.length) (by omega)
    ⟨0, 0, by rw [List.take_zero]; rfl, by omega, .inl rfl, rfl⟩ ?_
  rintro m x ⟨i, fe, rfl, i1, i2, rfl⟩ K hK
  try dsimp only
  have hoi := hol i
  refine Ok.ite (fun hi => ?_) (fun hi => ?_)
  · have hlt : i < l.Calls.length := by omega
    refine Ok.j (Ok.atn hlt ?_)
    have hsu := ownC_take_succ (id := p.ID) hlt
    have hsp : l.Calls = l.Calls.take i ++ nth l.Calls i :: l.Calls.drop (i + 1) := by rw [← drop_nth' hlt, List.take_append_drop]
    obtain ⟨c, hce⟩ : ∃ c, nth l.Calls i = c := ⟨_, rfl⟩
    rw [hce] at hsu hsp ⊢
    refine Ok.ite (fun g => ?_) (fun g => ?_)
    · rw [if_neg g, List.append_nil] at hsu
      try dsimp only
      rw [wrap_succ (by omega)]
      refine hK _ _ (by omega) ⟨i + 1, fe, by rw [hsu], by omega, by rw [hsu]; exact i2, rfl⟩
    · have g : c.Page = p.ID := by omega
      rw [if_pos g] at hsu
      have hown : ownC p.ID l.Calls = ownC p.ID (l.Calls.take i) ++ c :: ownC p.ID (l.Calls.drop (i + 1)) := by
        rw [hsp, ownC_append]
        congr 1
        · rw [← hsp]
        · unfold ownC
          rw [List.filter_cons_of_pos (by simpa using g)]
          rw [← hsp]
      have hcm : c ∈ ownC p.ID l.Calls := by rw [hown]; simp
      have hfit := ht.fit c hcm
      have hle : fe ≤ c.Fence := by
        rcases i2 with rfl | ⟨c', hc', rfl⟩
        · exact hfit.1
        · have := ht.up
          rw [hown] at this
          exact (List.pairwise_append.1 this).2.2 c' hc' c (List.mem_cons_self ..)
      have hn : (ownC p.ID (l.Calls.take i)).length < W.length := by rw [hWl, hown]; simp
      have hnth : nth W (ownC p.ID (l.Calls.take i)).length = unf c := by
        have e : W = (ownC p.ID (l.Calls.take i)).map unf ++ (unf c :: (ownC p.ID (l.Calls.drop (i + 1))).map unf) := by rw [← hW, hown, List.map_append, List.map_cons]
        rw [e]
        simp [nth, List.getD_eq_getElem?_getD]
      refine Ok.join (fun y => y = ((W, ((ownC p.ID (l.Calls.take i)).length : Int), (i : Int), ()), l, p, c, ())) (fun y hy => ?_) (fun J hJ => Ok.n (by omega) (Ok.n (by omega) (Ok.n (by omega) (hJ _ rfl))))
      subst hy
      try dsimp only
      refine Ok.atn hn ?_
      rw [hnth]
      refine Ok.n (fun h => h rfl) ?_
      try dsimp only
      rw [wrap_succ (by omega), wrap_succ (by omega)]
      refine hK _ _ (by omega) ⟨i + 1, c.Fence, by rw [hsu]; simp, by omega, .inr ⟨c, by rw [hsu]; simp, rfl⟩, rfl⟩
  · have e : i = l.Calls.length := by omega
    subst e
    refine Ok.s (decide_eq_true ?_)
    rw [List.take_length, hWl]
def sumC (l : List D.Page) (f : D.Page → Nat) : Nat := (l.map f).sum
theorem sumC_add {l : List D.Page} {f g h : D.Page → Nat} (e : ∀ p ∈ l, f p = g p + h p) : sumC l f = sumC l g + sumC l h := by
  induction l with
  | nil => rfl
  | cons p l ih =>
    have := ih fun q hq => e q (List.mem_cons_of_mem _ hq)
    have h1 := e p (List.mem_cons_self ..)
    simp only [sumC, List.map_cons, List.sum_cons] at this ⊢
    omega
theorem sumC_one {l : List D.Page} {x : Int} (ha : AscP l) (hx : ∃ p ∈ l, p.ID = x) : sumC l (fun p => if x = p.ID then 1 else 0) = 1 := by
  induction l with
  | nil => obtain ⟨p, hp, _⟩ := hx; simp at hp
  | cons q l ih =>
    have ha' := List.pairwise_cons.1 ha
    have hz : ∀ (l : List D.Page), (∀ p ∈ l, x ≠ p.ID) → sumC l (fun p => if x = p.ID then 1 else 0) = 0 := by
      intro l
      induction l with
      | nil => intro _; rfl
      | cons p l ih =>
        intro h
        simp only [sumC, List.map_cons, List.sum_cons]
        rw [if_neg (h p (List.mem_cons_self ..))]
        have := ih fun q hq => h q (List.mem_cons_of_mem _ hq)
        unfold sumC at this; omega
    simp only [sumC, List.map_cons, List.sum_cons]
    by_cases e : x = q.ID
    · rw [if_pos e]
      have := hz l fun p hp e' => by have := ha'.1 p hp; omega
      unfold sumC at this; omega
    · rw [if_neg e]
      have := ih ha'.2 (by
        obtain ⟨p, hp, h2⟩ := hx
        rcases List.mem_cons.1 hp with rfl | hp
        · exact absurd h2.symm e
        · exact ⟨p, hp, h2⟩)
      unfold sumC at this; omega
theorem sumC_calls {l : List D.Page} (ha : AscP l) : ∀ {cs : List D.Call}, (∀ c ∈ cs, ∃ p ∈ l, p.ID = c.Page) → sumC l (fun p => (ownC p.ID cs).length) = cs.length
  | [], _ => by
    have : ∀ l : List D.Page, sumC l (fun p => (ownC p.ID []).length) = 0 := by
      intro l
      induction l with
      | nil => rfl
      | cons p l ih => simp only [sumC, List.map_cons, List.sum_cons] at ih ⊢; simpa [ownC] using ih
    rw [this]; rfl
  | c :: cs, h => by
    have h1 := sumC_calls ha (cs := cs) fun x hx => h x (List.mem_cons_of_mem _ hx)
    have h2 := sumC_one ha (h c (List.mem_cons_self ..))
    rw [sumC_add (g := fun p => (ownC p.ID cs).length) (h := fun p => if c.Page = p.ID then 1 else 0) (fun p hp => ?_), h1, h2, List.length_cons]
    unfold ownC
    by_cases e : c.Page = p.ID
    · rw [List.filter_cons_of_pos (by simpa using e), if_pos e, List.length_cons]
    · rw [List.filter_cons_of_neg (by simpa using e), if_neg e]; rfl
theorem sumC_le {l : List D.Page} {f : D.Page → Nat} {m : Nat} (h : ∀ p ∈ l, f p ≤ m) : sumC l f ≤ m * l.length := by
  induction l with
  | nil => simp [sumC]
  | cons p l ih =>
    have h1 := h p (List.mem_cons_self ..)
    have h2 := ih fun q hq => h q (List.mem_cons_of_mem _ hq)
    simp only [sumC, List.map_cons, List.sum_cons, List.length_cons] at h2 ⊢
    have : m * (l.length + 1) = m * l.length + m := Nat.mul_succ ..
    omega
end
end Go.Proofs.YtfhcigjkfelnfaaGreat
/-
  Books that dice make are right, for the reference's check.
-/
set_option maxRecDepth 100000
set_option linter.unusedVariables false
set_option linter.unusedSimpArgs false
namespace Go.Proofs.YtfhcigjkfelnfaaGreat
open Go AM
section
variable {n : Nat} {c : D.Config} {b : D.Book}
theorem nth_take {α : Type} [Inhabited α] {l : List α} {k i : Nat} (h : i < k) : nth (l.take k) i = nth l i := by
  simp [nth, List.getD_eq_getElem?_getD, List.getElem?_take, h]
theorem BookOK.tnm (h : BookOK b) {i : Nat} (hi : i < b.Teams.length) : (nth b.Teams i).Name = nth bTeams i := by
  rw [nth_map' h.tname hi, nth_take hi]
theorem BookOK.pnm (h : BookOK b) {i : Nat} (hi : i < b.Policies.length) : (nth b.Policies i).Name = nth bPols i := by
  rw [nth_map' h.pname hi, nth_take hi]
theorem forall3 {P : Nat → Prop} (h0 : P 0) (h1 : P 1) (h2 : P 2) : ∀ i, i < 3 → P i := fun i hi => by
  rcases (show i = 0 ∨ i = 1 ∨ i = 2 by omega) with rfl | rfl | rfl
  · exact h0
  · exact h1
  · exact h2
theorem name6_t : ∀ i, i < 2 → r06_Name 1000 (nth bTeams i) = some true := forall2 (by kernel_rfl) (by kernel_rfl)
theorem name6_p : ∀ i, i < 3 → r06_Name 1000 (nth bPols i) = some true := forall3 (by kernel_rfl) (by kernel_rfl) (by kernel_rfl)
theorem bTeams_ne : ∀ i, i < 2 → ∀ j, j < i → nth bTeams j ≠ nth bTeams i := by decide
theorem bPols_ne : ∀ i, i < 3 → ∀ j, j < i → nth bPols j ≠ nth bPols i := by decide
theorem setN_ok {l : List Int} {m : Int} (ha : Asc l) (hm : ∀ x ∈ l, 0 ≤ x ∧ x < m) (hl : l.length < 900) : r25_Set 1000 l m = some true := by
  refine Ok.eq ?_
  unfold r25_Set
  refine Ok.run l.length (fun i => ((l, m, (i : Int), ()), ())) rfl (by omega) (fun i hi k hk => ?_) (fun k => by dsimp only; exact Ok.n (by omega) (Ok.s rfl))
  have hx := hm _ (nth_mem hi)
  dsimp only
  refine Ok.p (by omega) (Ok.j (Ok.atn hi (Ok.n (by omega) (Ok.atn hi (Ok.n (by omega) ?_)))))
  dsimp only
  rw [wrap_succ (by omega)]
  by_cases h0 : 0 < i
  · refine Ok.p (by omega) ?_
    rw [show IntKind.wrap .i64 ((i : Int) - 1) = ((i - 1 : Nat) : Int) by rw [wrap_id (by omega)]; omega]
    have := asc_nth ha (show i - 1 < i by omega) hi
    exact Ok.atn (by omega) (Ok.atn hi (Ok.n (by omega) hk))
  · exact Ok.n (by omega) hk
theorem team25_is (h : CfgOK n c) (hb : BookOK b) {i : Nat} (hi : i < b.Teams.length) : r25_team 1000 c b (i : Int) = some 0 := by
  have htl := hb.tlen
  have ht := hb.team _ (nth_mem hi)
  have hnm := hb.tnm hi
  have hpl := h.plen
  refine Ok.eq ?_
  unfold r25_team
  refine Ok.atn hi (Ok.oe (by rw [hnm]; exact name6_t i (by omega)) (Ok.nt rfl ?_))
  obtain ⟨x, hx⟩ : ∃ x, nth b.Teams i = x := ⟨_, rfl⟩
  rw [hx] at ht hnm ⊢
  refine Ok.run2 i (fun k => ((i : Int), (k : Int), ())) rfl (by omega) (fun k hk K hK => ?_) (fun K => ?_)
  · dsimp only
    refine Ok.p (by omega) (Ok.atn (by omega) (Ok.n ?_ ?_))
    · rw [hb.tnm (by omega), hnm]; exact bTeams_ne i (by omega) k hk
    · rw [wrap_succ (by omega)]; exact hK
  · dsimp only
    have hml := ht.len
    refine Ok.n (by omega) (Ok.n (by omega) ?_)
    refine Ok.run2 (x.Members.length - 1) (fun k => (((k + 1 : Nat) : Int), ())) rfl (by omega) (fun k hk K hK => ?_) (fun K => ?_)
    · dsimp only
      rw [show IntKind.wrap .i64 (((k + 1 : Nat) : Int) - 1) = ((k : Nat) : Int) by rw [wrap_id (by omega)]; omega]
      have := asc_nth ht.asc (show k < k + 1 by omega) (show k + 1 < x.Members.length by omega)
      refine Ok.p (by omega) (Ok.atn (by omega) (Ok.atn (by omega) (Ok.n (by omega) ?_)))
      rw [wrap_succ (by omega)]; exact hK
    · dsimp only
      refine Ok.n (by omega) (Ok.oe (setN_ok ht.asc (fun z hz => ?_) (by omega)) (Ok.nt rfl (Ok.s rfl)))
      have := ht.mem z hz; omega
theorem targets25_is (h : CfgOK n c) (hb : BookOK b) {l : List D.Target} (hl : l.length ≤ 2) (ht : ∀ x ∈ l, TargetOK b.Teams.length x) : r25_targets 1000 c b l = some 0 := by
  have hpl := h.plen; have hsl := h.slen
  refine Ok.eq ?_
  unfold r25_targets
  refine Ok.n (by omega) (Ok.run l.length (fun i => ((l, (i : Int), ()), c, b, ())) rfl (by omega) (fun i hi k hk => ?_) (fun k => by dsimp only; exact Ok.n (by omega) (Ok.s rfl)))
  dsimp only
  have hx := ht _ (nth_mem hi)
  have h1 := hx.lo; have h2 := hx.person; have h3 := hx.sched; have h4 := hx.team
  refine Ok.p (by omega) (Ok.j ?_)
  refine Ok.join (fun y => ∃ m : Int, y = ((l, (i : Int), m, ()), c, b, ()) ∧ (nth l i).Index < m) (fun y hy => ?_) (fun J hJ => ?_)
  · obtain ⟨m, rfl, hm⟩ := hy
    dsimp only
    rw [wrap_succ (by omega)]
    exact Ok.atn hi (Ok.n (by omega) (Ok.atn hi (Ok.n (by omega) hk)))
  · refine Ok.atn hi ?_
    rcases hx.kind with hk | hk | hk
    · have := h2 hk
      exact Ok.p hk (hJ _ ⟨_, rfl, by omega⟩)
    · have := h3 hk
      exact Ok.n (by omega) (Ok.p hk (hJ _ ⟨_, rfl, by omega⟩))
    · have := h4 hk
      exact Ok.n (by omega) (Ok.n (by omega) (Ok.p hk (hJ _ ⟨_, rfl, by omega⟩)))
theorem policy25_is (h : CfgOK n c) (hb : BookOK b) {i : Nat} (hi : i < b.Policies.length) : r25_policy 1000 c b (i : Int) = some 0 := by
  have htl := hb.plen
  have ht := hb.pol _ (nth_mem hi)
  have hnm := hb.pnm hi
  refine Ok.eq ?_
  unfold r25_policy
  refine Ok.atn hi (Ok.oe (by rw [hnm]; exact name6_p i (by omega)) (Ok.nt rfl ?_))
  obtain ⟨x, hx⟩ : ∃ x, nth b.Policies i = x := ⟨_, rfl⟩
  rw [hx] at ht hnm ⊢
  refine Ok.run2 i (fun k => ((i : Int), (k : Int), ())) rfl (by omega) (fun k hk K hK => ?_) (fun K => ?_)
  · dsimp only
    refine Ok.p (by omega) (Ok.atn (by omega) (Ok.n ?_ ?_))
    · rw [hb.pnm (by omega), hnm]; exact bPols_ne i (by omega) k hk
    · rw [wrap_succ (by omega)]; exact hK
  · dsimp only
    have hml := ht.len; have hrp := ht.rep
    refine Ok.n (by omega) (Ok.n (by omega) (Ok.n (by omega) (Ok.oe rin (Ok.nt (inV_is.2 (by omega)) ?_))))
    refine Ok.run2 x.Steps.length (fun k => ((k : Int), ())) rfl (by omega) (fun k hk K hK => ?_) (fun K => by dsimp only; exact Ok.n (by omega) (Ok.s rfl))
    dsimp only
    have hs := ht.step _ (nth_mem hk)
    have hw := hs.wait
    refine Ok.p (by omega) (Ok.atn hk (Ok.oe rin (Ok.nt (inV_is.2 (by omega)) (Ok.atn hk (Ok.oe (targets25_is h hb hs.len hs.target) (Ok.n (by simp) ?_))))))
    rw [wrap_succ (by omega)]; exact hK
theorem book25_is (h : CfgOK n c) (hn : n ≤ 48) (hb : BookOK b) : r25_Check 1000 c b = some 0 := by
  have htl := hb.tlen; have hpl := hb.plen
  refine Ok.eq ?_
  unfold r25_Check
  refine Ok.oe (check8_ok h hn) (Ok.n (by simp) (Ok.opt (P := (· = 0)) ?_ fun r hr => Ok.s hr))
  unfold r25_book
  refine Ok.j (Ok.n (by omega) (Ok.n (by omega) ?_))
  refine Ok.run b.Teams.length (fun i => (((i : Int), ()), c, b, ())) rfl (by omega) (fun i hi k hk => ?_) (fun k => ?_)
  · dsimp only
    refine Ok.p (by omega) (Ok.oe (team25_is h hb hi) (Ok.n (by simp) ?_))
    rw [wrap_succ (by omega)]; exact hk
  · dsimp only
    refine Ok.n (by omega) (Ok.run b.Policies.length (fun i => (((i : Int), ()), c, b, ())) rfl (by omega) (fun i hi k hk => ?_) (fun k => by dsimp only; exact Ok.n (by omega) (Ok.s rfl)))
    dsimp only
    refine Ok.p (by omega) (Ok.oe (policy25_is h hb hi) (Ok.n (by simp) ?_))
    rw [wrap_succ (by omega)]; exact hk
end
end Go.Proofs.YtfhcigjkfelnfaaGreat
/-
  Ledgers: what the reference's check, search and runs compute.
-/
set_option maxRecDepth 100000
set_option linter.unusedVariables false
set_option linter.unusedSimpArgs false
namespace Go.Proofs.YtfhcigjkfelnfaaGreat
open Go AM
attribute [local irreducible] dueV stepV runV checkV answerV
section
variable {n : Nat} {c : D.Config} {b : D.Book} {p q : D.Page} {now M : Int} {l : D.Ledger} {i : Nat}
theorem LedgerInv.callsN (h : LedgerInv M n l) : sumC l.Pages (fun p => (ownC p.ID l.Calls).length) = l.Calls.length := sumC_calls h.asc h.all
theorem LedgerInv.ownN (h : LedgerInv M n l) (hp : p ∈ l.Pages) : (ownC p.ID l.Calls).length = (callsOf p.ID 0 p.Starts).length := by
  have := (h.told p hp).same
  rw [← this, List.length_map]
theorem LedgerInv.callsLe (h : LedgerInv M n l) (hpg : l.Pages.length ≤ 9) : l.Calls.length ≤ 468 := by
  rw [← h.callsN]
  have := sumC_le (l := l.Pages) (f := fun p => (ownC p.ID l.Calls).length) (m := 52) fun p hp => by
    obtain ⟨g1, g2⟩ := h.page p hp
    obtain ⟨t, g3, _⟩ := g1.goes
    have h1 := callsOf_len (id := p.ID) (f := 0) (m := 4) (Goes.short (fun s hs => hs) g3)
    have h2 := (g1.len h.book).1
    show (ownC p.ID l.Calls).length ≤ 52
    rw [h.ownN hp]; omega
  omega
theorem sumC_snoc {l : List D.Page} {f : D.Page → Nat} : sumC (l ++ [p]) f = sumC l f + f p := by simp [sumC]
theorem ledger_check (h : LedgerInv M n l) (hpg : l.Pages.length ≤ 9) : r31_Check 1000 l = some true := by
  have htop := h.top; have hnow := h.now; have how := h.owner; have hfe := h.fence; have hse := h.seen.len; have hcl := h.callsLe hpg
  refine Ok.eq ?_
  unfold r31_Check
  refine Ok.j (Ok.oe (book25_is h.cfg h.small h.book) (Ok.n (by simp) (Ok.oe rin (Ok.bt (inV_is.2 (by omega)) (Ok.n (by omega) (Ok.oe rin (Ok.bt (inV_is.2 how) (Ok.oe rin (Ok.bt (inV_is.2 (by omega)) (Ok.n (by omega) ?_))))))))))
  have hsle : ∀ i, sumC (l.Pages.take i) (fun p => (ownC p.ID l.Calls).length) ≤ 468 * i := fun i => by
    have := sumC_le (l := l.Pages.take i) (f := fun p => (ownC p.ID l.Calls).length) (m := 468) fun p hp => by
      show (ownC p.ID l.Calls).length ≤ 468
      unfold ownC
      exact Nat.le_trans (List.length_filter_le _ _) hcl
    refine Nat.le_trans this (Nat.mul_le_mul_left _ ?_)
    simp only [List.length_take]; omega
  refine Ok.run l.Pages.length (fun i => ((((sumC (l.Pages.take i) (fun p => (ownC p.ID l.Calls).length) : Nat) : Int), (i : Int), ()), l, ())) rfl (by omega) (fun i hi k hk => ?_) (fun k => ?_)
  · try dsimp only
    have hm := nth_mem hi
    obtain ⟨g1, g2⟩ := h.page _ hm
    have gt := h.told _ hm
    have hown := h.ownN hm
    have hs1 := hsle i
    have hs2 := hsle (i + 1)
    refine Ok.p (by omega) (Ok.atn hi ?_)
    have hasc : 0 < i → (nth l.Pages (i - 1)).ID < (nth l.Pages i).ID := fun h0 => ascP_nth h.asc (by omega) hi
    try dsimp only at hk
    rw [← take_snoc' hi, sumC_snoc] at hk
    obtain ⟨p, hp⟩ : ∃ p, nth l.Pages i = p := ⟨_, rfl⟩
    rw [hp] at g1 g2 gt hown hk hasc ⊢
    have hpl := g1.plen h.book
    refine Ok.join (fun y => y = ((((sumC (l.Pages.take i) (fun p => (ownC p.ID l.Calls).length) : Nat) : Int), (i : Int), ()), l, p, ())) (fun y hy => ?_) (fun J hJ => ?_)
    · subst hy
      try dsimp only
      have hc := calls_is (k := 0) (f := 0) hpl (Nat.zero_le _)
      rw [List.drop_zero] at hc
      refine Ok.oe hc ?_
      try dsimp only
      rw [wrap_succ (by omega), ← hown, wrap_id (by have : (ownC p.ID l.Calls).length ≤ 468 := (by unfold ownC; exact Nat.le_trans (List.length_filter_le _ _) hcl); omega)]
      exact hk
    · have tail : Ok (optc (r29_Check 1000 l.Book p) fun a13 => AM.cnd a13 (AM.cnd (decide (l.Now < p.Last)) (some false) (optc (r31_told 1000 l p) fun a14 => AM.cnd a14 (J ((((sumC (l.Pages.take i) (fun p => (ownC p.ID l.Calls).length) : Nat) : Int), (i : Int), ()), l, p, ())) (some false))) (some false)) (· = true) :=
        Ok.oe (check29_is h.book hpl) (Ok.bt (g1.check h.book) (Ok.n (by omega) (Ok.oe (told_is hpl (by omega) gt) (Ok.t (hJ _ rfl)))))
      by_cases h0 : 0 < i
      · refine Ok.p (by omega) ?_
        rw [show IntKind.wrap .i64 ((i : Int) - 1) = ((i - 1 : Nat) : Int) by rw [wrap_id (by omega)]; omega]
        have := hasc h0
        exact Ok.atn (by omega) (Ok.n (by omega) tail)
      · exact Ok.n (by omega) tail
  · try dsimp only
    refine Ok.n (by omega) ?_
    rw [List.take_length, h.callsN]
    refine Ok.run l.Seen.length (fun i => ((((l.Calls.length : Nat) : Int), (i : Int), ()), l, ())) rfl (by omega) (fun i hi k hk => ?_) (fun k => by dsimp only; exact Ok.n (by omega) (Ok.s (decide_eq_true rfl)))
    try dsimp only
    have hx := h.seen.fit _ (nth_mem hi)
    have hno : (l.Seen.take i).contains (nth l.Seen i) = false := by
      cases hc : (l.Seen.take i).contains (nth l.Seen i) with
      | false => rfl
      | true =>
        have := seen_bad hi hc
        rw [decide_eq_true h.seen.nodup] at this; simp at this
    refine Ok.p (by omega) (Ok.j (Ok.atn hi (Ok.oe rin (Ok.bt (inV_is.2 hx) (Ok.natn (Ok.lec (by omega) (Ok.atn hi (Ok.oe (has25_is (by simp; omega)) (Ok.bf hno ?_)))))))))
    try dsimp only
    rw [wrap_succ (by omega)]; exact hk
abbrev lgA (l : D.Ledger) : Int × List D.Zone × List D.Person × List D.Calendar × List D.Schedule × List D.Team × List D.Policy × Int × Int × Unit := (l.Now, l.Config.Zones, l.Config.People, l.Config.Calendars, l.Config.Schedules, l.Book.Teams, l.Book.Policies, l.Owner, l.Fence, ())
def findV (l : D.Ledger) (id : Int) : D.Page × Bool := if hasV id l.Pages = true then (nth l.Pages (posV id l.Pages), true) else (page0, false)
theorem find_at {id : Int} (ha : AscP l.Pages) (hi : i < l.Pages.length) (h : (nth l.Pages i).ID = id) : findV l id = (nth l.Pages i, true) := by
  subst h
  unfold findV
  rw [if_pos (hasV_at ha hi), posV_at ha hi]
theorem find_no {id : Int} (h : ∀ i, i < l.Pages.length → (nth l.Pages i).ID ≠ id) : findV l id = (page0, false) := by
  unfold findV
  rw [if_neg]
  intro hh
  have := hasV_is hh
  exact h _ this.1 this.2
theorem find_is {id : Int} (hp : ∀ p ∈ l.Pages, PageLen p) (ha : AscP l.Pages) (hl : l.Pages.length ≤ 64) : r31_Find 1000 l id = some (findV l id) := by
  refine Ok.eq ?_
  unfold r31_Find
  refine Ok.scan2 l.Pages.length (fun i => (id, (i : Int), ())) (fun i => decide ((nth l.Pages i).ID = id)) rfl (by omega) (fun i hi hq _ k => ?_) (fun i hi hq k hk => ?_) (fun hq k => ?_)
  · have hq := of_decide_eq_true hq
    refine Ok.p (by omega) (Ok.atn hi (Ok.p hq (Ok.atn hi (Ok.oe (copy29_is (hp _ (nth_mem hi))) (Ok.s ?_)))))
    rw [find_at ha hi hq]
  · have hq := of_decide_eq_false hq
    refine Ok.p (by omega) (Ok.atn hi (Ok.n hq ?_))
    try dsimp only
    rw [wrap_succ (by omega)]; exact hk
  · refine Ok.n (by omega) (Ok.s ?_)
    rw [find_no fun i hi => of_decide_eq_false (hq i hi)]; rfl
theorem find0_is {id : Int} (hp : ∀ p ∈ l.Pages, PageLen p) (ha : AscP l.Pages) (hl : l.Pages.length ≤ 64) : r31_Find_0c7c10c11 1000 l id = some (findV l id) := by
  refine Ok.eq ?_
  unfold r31_Find_0c7c10c11
  refine Ok.scan2 l.Pages.length (fun i => (id, (i : Int), ())) (fun i => decide ((nth l.Pages i).ID = id)) rfl (by omega) (fun i hi hq _ k => ?_) (fun i hi hq k hk => ?_) (fun hq k => ?_)
  · have hq := of_decide_eq_true hq
    refine Ok.p (by omega) (Ok.natn (Ok.lt hi (Ok.get hi (Ok.p hq (Ok.natn (Ok.lt hi (Ok.get hi (Ok.oe (copy29_is (hp _ (nth_mem hi))) (Ok.sameC (Ok.sameC (Ok.sameC (Ok.s ?_))))))))))))
    rw [find_at ha hi hq]
  · have hq := of_decide_eq_false hq
    refine Ok.p (by omega) (Ok.natn (Ok.lt hi (Ok.get hi (Ok.n hq ?_))))
    try dsimp only
    rw [wrap_succ (by omega)]; exact hk
  · refine Ok.n (by omega) (Ok.sameC (Ok.sameC (Ok.sameC (Ok.s ?_))))
    rw [find_no fun i hi => of_decide_eq_false (hq i hi)]; rfl
theorem LedgerInv.plens (h : LedgerInv M n l) : ∀ p ∈ l.Pages, PageLen p := fun p hp => (h.page p hp).1.plen h.book
theorem put_is (ha : AscP l.Pages) (hl : l.Pages.length ≤ 64) (hcl : l.Calls.length ≤ 100000) (hi : i < l.Pages.length) (hid : p.ID = (nth l.Pages i).ID) (hpl : PageLen p) (hle : (nth l.Pages i).Starts.length ≤ p.Starts.length) :
    r31_put_0c7c10c11 1000 l p = some (putV l i p) := by
  refine Ok.eq ?_
  unfold r31_put_0c7c10c11
  refine Ok.run l.Pages.length (fun j => (((j : Int), ()), lgA l, p, ({ Now := 0, Config := { Zones := [], People := [], Calendars := [], Schedules := [] }, Book := { Teams := [], Policies := [] }, Pages := [], Owner := 0, Fence := 0, Seen := [], Calls := [] } : D.Ledger),
    (if j ≤ i then l.Pages else l.Pages.set i p), l.Seen, (if j ≤ i then l.Calls else l.Calls ++ callsOf p.ID l.Fence (p.Starts.drop (nth l.Pages i).Starts.length)), ())) (by rw [if_pos (Nat.zero_le _), if_pos (Nat.zero_le _)]; rfl) (by omega) (fun j hj k hk => ?_) (fun k => ?_)
  · try dsimp only [lgA] at hk ⊢
    have hlen : (if j ≤ i then l.Pages else l.Pages.set i p).length = l.Pages.length := by split <;> simp
    have hj' : j < (if j ≤ i then l.Pages else l.Pages.set i p).length := by omega
    have hnth : j ≠ i → nth (if j ≤ i then l.Pages else l.Pages.set i p) j = nth l.Pages j := fun hne => by
      split
      · rfl
      · exact nth_set_ne hne
    refine Ok.p (by omega) (Ok.j (Ok.natn (Ok.lt hj' (Ok.get hj' ?_))))
    by_cases e : j = i
    · subst e
      rw [if_pos (Nat.le_refl _), if_pos (Nat.le_refl _)]
      rw [if_neg (by omega), if_neg (by omega)] at hk
      have hc := calls_is (k := (nth l.Pages j).Starts.length) (f := l.Fence) hpl hle
      have hcb : (callsOf p.ID l.Fence (p.Starts.drop (nth l.Pages j).Starts.length)).length ≤ 40 * (p.Starts.drop (nth l.Pages j).Starts.length).length := callsOf_len fun s hs => (hpl.pe s (List.mem_of_mem_drop hs)).1
      have hst := hpl.st
      rw [List.length_drop] at hcb
      refine Ok.p hid.symm (Ok.natn (Ok.lt hi (Ok.get hi (Ok.oe hc (Ok.lec (by omega) (Ok.natn (Ok.lt hi (Ok.get hi ?_))))))))
      try dsimp only
      rw [wrap_succ (by omega)]
      exact hk
    · rw [hnth e]
      have hne : (nth l.Pages j).ID ≠ p.ID := by
        rw [hid]
        rcases Nat.lt_or_gt_of_ne e with h | h
        · have := ascP_nth ha h hi; omega
        · have := ascP_nth ha h hj; omega
      refine Ok.n hne ?_
      try dsimp only
      rw [wrap_succ (by omega)]
      have e1 : (j + 1 ≤ i) = (j ≤ i) := by apply propext; omega
      simp only [e1] at hk
      exact hk
  · try dsimp only [lgA]
    rw [if_neg (by omega), if_neg (by omega)]
    refine Ok.n (by simp) (Ok.s ?_)
    rfl
theorem runL_is {id : Int} (h : LedgerInv M n l) (hpg : l.Pages.length ≤ 9) : r31_run_0c7c10c11 1000 l id l.Now = some (if hasV id l.Pages = true then runI l (posV id l.Pages) else l) := by
  have hcl := h.callsLe hpg
  refine Ok.eq ?_
  unfold r31_run_0c7c10c11
  refine Ok.oe (find0_is h.plens h.asc (by omega)) ?_
  unfold findV
  by_cases hh : hasV id l.Pages = true
  · rw [if_pos hh, if_pos hh]
    try dsimp only
    have hi := hasV_is hh
    obtain ⟨g1, g2⟩ := h.at hi.1
    obtain ⟨q, r1, r2, r3, r4⟩ := runV_pair (c := l.Config) h.book QT.step g1 l.Now
    have hx := runV_ext (c := l.Config) (now := l.Now) h.book g1
    rw [r1] at hx
    refine Ok.f (Ok.oe (run29_is h.cfg h.small h.book (g1.plen h.book)) ?_)
    rw [r1]
    try dsimp only
    refine Ok.n (by simp) (Ok.oe (put_is (i := posV id l.Pages) h.asc (by omega) (by omega) hi.1 r4.id (r2.plen h.book) ?_) (Ok.s ?_))
    · obtain ⟨m, hm⟩ := hx
      try dsimp only at hm
      rw [hm]; simp
    · unfold runI
      rw [r1, if_neg (by simp)]
  · rw [if_neg hh, if_neg hh]
    exact Ok.t (Ok.s rfl)
end
end Go.Proofs.YtfhcigjkfelnfaaGreat
