/-
  Ledgers: what the reference's check, search and runs compute.
-/
import Derived.Test.YtfhcigjkfelnfaaGreatQRowAuditLateM
set_option maxRecDepth 100000
set_option linter.unusedVariables false
set_option linter.unusedSimpArgs false
namespace Go.Proofs.YtfhcigjkfelnfaaGreat
open Go AM
attribute [local irreducible] dueV stepV runV checkV answerV
section
variable {n : Nat} {c : D.Config} {b : D.Book} {p q : D.Page} {now M : Int} {l : D.Ledger} {i : Nat}
theorem LedgerInv.callsN (h : LedgerInv M n l) : sumC l.Pages (fun p => (ownC p.ID l.Calls).length) = l.Calls.length := sumC_calls h.asc h.all
theorem LedgerInv.ownN (h : LedgerInv M n l) (hp : p ∈ l.Pages) : (ownC p.ID l.Calls).length = (callsOf p.ID 0 p.Starts).length := by
  have := (h.told p hp).same
  rw [← this, List.length_map]
theorem LedgerInv.callsLe (h : LedgerInv M n l) (hpg : l.Pages.length ≤ 9) : l.Calls.length ≤ 468 := by
  rw [← h.callsN]
  have := sumC_le (l := l.Pages) (f := fun p => (ownC p.ID l.Calls).length) (m := 52) fun p hp => by
    obtain ⟨g1, g2⟩ := h.page p hp
    obtain ⟨t, g3, _⟩ := g1.goes
    have h1 := callsOf_len (id := p.ID) (f := 0) (m := 4) (Goes.short (fun s hs => hs) g3)
    have h2 := (g1.len h.book).1
    show (ownC p.ID l.Calls).length ≤ 52
    rw [h.ownN hp]; omega
  omega
theorem sumC_snoc {l : List D.Page} {f : D.Page → Nat} : sumC (l ++ [p]) f = sumC l f + f p := by simp [sumC]
theorem ledger_check (h : LedgerInv M n l) (hpg : l.Pages.length ≤ 9) : r31_Check 1000 l = some true := by
  have htop := h.top; have hnow := h.now; have how := h.owner; have hfe := h.fence; have hse := h.seen.len; have hcl := h.callsLe hpg
  refine Ok.eq ?_
  unfold r31_Check
  refine Ok.j (Ok.oe (book25_is h.cfg h.small h.book) (Ok.n (by simp) (Ok.oe rin (Ok.bt (inV_is.2 (by omega)) (Ok.n (by omega) (Ok.oe rin (Ok.bt (inV_is.2 how) (Ok.oe rin (Ok.bt (inV_is.2 (by omega)) (Ok.n (by omega) ?_))))))))))
  have hsle : ∀ i, sumC (l.Pages.take i) (fun p => (ownC p.ID l.Calls).length) ≤ 468 * i := fun i => by
    have := sumC_le (l := l.Pages.take i) (f := fun p => (ownC p.ID l.Calls).length) (m := 468) fun p hp => by
      show (ownC p.ID l.Calls).length ≤ 468
      unfold ownC
      exact Nat.le_trans (List.length_filter_le _ _) hcl
    refine Nat.le_trans this (Nat.mul_le_mul_left _ ?_)
    simp only [List.length_take]; omega
  refine Ok.run l.Pages.length (fun i => ((((sumC (l.Pages.take i) (fun p => (ownC p.ID l.Calls).length) : Nat) : Int), (i : Int), ()), l, ())) rfl (by omega) (fun i hi k hk => ?_) (fun k => ?_)
  · try dsimp only
    have hm := nth_mem hi
    obtain ⟨g1, g2⟩ := h.page _ hm
    have gt := h.told _ hm
    have hown := h.ownN hm
    have hs1 := hsle i
    have hs2 := hsle (i + 1)
    refine Ok.p (by omega) (Ok.atn hi ?_)
    have hasc : 0 < i → (nth l.Pages (i - 1)).ID < (nth l.Pages i).ID := fun h0 => ascP_nth h.asc (by omega) hi
    try dsimp only at hk
    rw [← take_snoc' hi, sumC_snoc] at hk
    obtain ⟨p, hp⟩ : ∃ p, nth l.Pages i = p := ⟨_, rfl⟩
    rw [hp] at g1 g2 gt hown hk hasc ⊢
    have hpl := g1.plen h.book
    refine Ok.join (fun y => y = ((((sumC (l.Pages.take i) (fun p => (ownC p.ID l.Calls).length) : Nat) : Int), (i : Int), ()), l, p, ())) (fun y hy => ?_) (fun J hJ => ?_)
    · subst hy
      try dsimp only
      have hc := calls_is (k := 0) (f := 0) hpl (Nat.zero_le _)
      rw [List.drop_zero] at hc
      refine Ok.oe hc ?_
      try dsimp only
      rw [wrap_succ (by omega), ← hown, wrap_id (by have : (ownC p.ID l.Calls).length ≤ 468 := (by unfold ownC; exact Nat.le_trans (List.length_filter_le _ _) hcl); omega)]
      exact hk
    · have tail : Ok (optc (r29_Check 1000 l.Book p) fun a13 => AM.cnd a13 (AM.cnd (decide (l.Now < p.Last)) (some false) (optc (r31_told 1000 l p) fun a14 => AM.cnd a14 (J ((((sumC (l.Pages.take i) (fun p => (ownC p.ID l.Calls).length) : Nat) : Int), (i : Int), ()), l, p, ())) (some false))) (some false)) (· = true) :=
        Ok.oe (check29_is h.book hpl) (Ok.bt (g1.check h.book) (Ok.n (by omega) (Ok.oe (told_is hpl (by omega) gt) (Ok.t (hJ _ rfl)))))
      by_cases h0 : 0 < i
      · refine Ok.p (by omega) ?_
        rw [show IntKind.wrap .i64 ((i : Int) - 1) = ((i - 1 : Nat) : Int) by rw [wrap_id (by omega)]; omega]
        have := hasc h0
        exact Ok.atn (by omega) (Ok.n (by omega) tail)
      · exact Ok.n (by omega) tail
  · try dsimp only
    refine Ok.n (by omega) ?_
    rw [List.take_length, h.callsN]
    refine Ok.run l.Seen.length (fun i => ((((l.Calls.length : Nat) : Int), (i : Int), ()), l, ())) rfl (by omega) (fun i hi k hk => ?_) (fun k => by dsimp only; exact Ok.n (by omega) (Ok.s (decide_eq_true rfl)))
    try dsimp only
    have hx := h.seen.fit _ (nth_mem hi)
    have hno : (l.Seen.take i).contains (nth l.Seen i) = false := by
      cases hc : (l.Seen.take i).contains (nth l.Seen i) with
      | false => rfl
      | true =>
        have := seen_bad hi hc
        rw [decide_eq_true h.seen.nodup] at this; simp at this
    refine Ok.p (by omega) (Ok.j (Ok.atn hi (Ok.oe rin (Ok.bt (inV_is.2 hx) (Ok.natn (Ok.lec (by omega) (Ok.atn hi (Ok.oe (has25_is (by simp; omega)) (Ok.bf hno ?_)))))))))
    try dsimp only
    rw [wrap_succ (by omega)]; exact hk
abbrev lgA (l : D.Ledger) : Int × List D.Zone × List D.Person × List D.Calendar × List D.Schedule × List D.Team × List D.Policy × Int × Int × Unit := (l.Now, l.Config.Zones, l.Config.People, l.Config.Calendars, l.Config.Schedules, l.Book.Teams, l.Book.Policies, l.Owner, l.Fence, ())
def findV (l : D.Ledger) (id : Int) : D.Page × Bool := if hasV id l.Pages = true then (nth l.Pages (posV id l.Pages), true) else (page0, false)
theorem find_at {id : Int} (ha : AscP l.Pages) (hi : i < l.Pages.length) (h : (nth l.Pages i).ID = id) : findV l id = (nth l.Pages i, true) := by
  subst h
  unfold findV
  rw [if_pos (hasV_at ha hi), posV_at ha hi]
theorem find_no {id : Int} (h : ∀ i, i < l.Pages.length → (nth l.Pages i).ID ≠ id) : findV l id = (page0, false) := by
  unfold findV
  rw [if_neg]
  intro hh
  have := hasV_is hh
  exact h _ this.1 this.2
theorem find_is {id : Int} (hp : ∀ p ∈ l.Pages, PageLen p) (ha : AscP l.Pages) (hl : l.Pages.length ≤ 64) : r31_Find 1000 l id = some (findV l id) := by
  refine Ok.eq ?_
  unfold r31_Find
  refine Ok.scan2 l.Pages.length (fun i => (id, (i : Int), ())) (fun i => decide ((nth l.Pages i).ID = id)) rfl (by omega) (fun i hi hq _ k => ?_) (fun i hi hq k hk => ?_) (fun hq k => ?_)
  · have hq := of_decide_eq_true hq
    refine Ok.p (by omega) (Ok.atn hi (Ok.p hq (Ok.atn hi (Ok.oe (copy29_is (hp _ (nth_mem hi))) (Ok.s ?_)))))
    rw [find_at ha hi hq]
  · have hq := of_decide_eq_false hq
    refine Ok.p (by omega) (Ok.atn hi (Ok.n hq ?_))
    try dsimp only
    rw [wrap_succ (by omega)]; exact hk
  · refine Ok.n (by omega) (Ok.s ?_)
    rw [find_no fun i hi => of_decide_eq_false (hq i hi)]; rfl
theorem find0_is {id : Int} (hp : ∀ p ∈ l.Pages, PageLen p) (ha : AscP l.Pages) (hl : l.Pages.length ≤ 64) : r31_Find_0c7c10c11 1000 l id = some (findV l id) := by
  refine Ok.eq ?_
  unfold r31_Find_0c7c10c11
  refine Ok.scan2 l.Pages.length (fun i => (id, (i : Int), ())) (fun i => decide ((nth l.Pages i).ID = id)) rfl (by omega) (fun i hi hq _ k => ?_) (fun i hi hq k hk => ?_) (fun hq k => ?_)
  · have hq := of_decide_eq_true hq
    refine Ok.p (by omega) (Ok.natn (Ok.lt hi (Ok.get hi (Ok.p hq (Ok.natn (Ok.lt hi (Ok.get hi (Ok.oe (copy29_is (hp _ (nth_mem hi))) (Ok.sameC (Ok.sameC (Ok.sameC (Ok.s ?_))))))))))))
    rw [find_at ha hi hq]
  · have hq := of_decide_eq_false hq
    refine Ok.p (by omega) (Ok.natn (Ok.lt hi (Ok.get hi (Ok.n hq ?_))))
    try dsimp only
    rw [wrap_succ (by omega)]; exact hk
  · refine Ok.n (by omega) (Ok.sameC (Ok.sameC (Ok.sameC (Ok.s ?_))))
    rw [find_no fun i hi => of_decide_eq_false (hq i hi)]; rfl
theorem LedgerInv.plens (h : LedgerInv M n l) : ∀ p ∈ l.Pages, PageLen p := fun p hp => (h.page p hp).1.plen h.book
theorem put_is (ha : AscP l.Pages) (hl : l.Pages.length ≤ 64) (hcl : l.Calls.length ≤ 100000) (hi : i < l.Pages.length) (hid : p.ID = (nth l.Pages i).ID) (hpl : PageLen p) (hle : (nth l.Pages i).Starts.length ≤ p.Starts.length) :
    r31_put_0c7c10c11 1000 l p = some (putV l i p) := by
  refine Ok.eq ?_
  unfold r31_put_0c7c10c11
  refine Ok.run l.Pages.length (fun j => (((j : Int), ()), lgA l, p, ({ Now := 0, Config := { Zones := [], People := [], Calendars := [], Schedules := [] }, Book := { Teams := [], Policies := [] }, Pages := [], Owner := 0, Fence := 0, Seen := [], Calls := [] } : D.Ledger),
    (if j ≤ i then l.Pages else l.Pages.set i p), l.Seen, (if j ≤ i then l.Calls else l.Calls ++ callsOf p.ID l.Fence (p.Starts.drop (nth l.Pages i).Starts.length)), ())) (by rw [if_pos (Nat.zero_le _), if_pos (Nat.zero_le _)]; rfl) (by omega) (fun j hj k hk => ?_) (fun k => ?_)
  · try dsimp only [lgA] at hk ⊢
    have hlen : (if j ≤ i then l.Pages else l.Pages.set i p).length = l.Pages.length := by split <;> simp
    have hj' : j < (if j ≤ i then l.Pages else l.Pages.set i p).length := by omega
    have hnth : j ≠ i → nth (if j ≤ i then l.Pages else l.Pages.set i p) j = nth l.Pages j := fun hne => by
      split
      · rfl
      · exact nth_set_ne hne
    refine Ok.p (by omega) (Ok.j (Ok.natn (Ok.lt hj' (Ok.get hj' ?_))))
    by_cases e : j = i
    · subst e
      rw [if_pos (Nat.le_refl _), if_pos (Nat.le_refl _)]
      rw [if_neg (by omega), if_neg (by omega)] at hk
      have hc := calls_is (k := (nth l.Pages j).Starts.length) (f := l.Fence) hpl hle
      have hcb : (callsOf p.ID l.Fence (p.Starts.drop (nth l.Pages j).Starts.length)).length ≤ 40 * (p.Starts.drop (nth l.Pages j).Starts.length).length := callsOf_len fun s hs => (hpl.pe s (List.mem_of_mem_drop hs)).1
      have hst := hpl.st
      rw [List.length_drop] at hcb
      refine Ok.p hid.symm (Ok.natn (Ok.lt hi (Ok.get hi (Ok.oe hc (Ok.lec (by omega) (Ok.natn (Ok.lt hi (Ok.get hi ?_))))))))
      try dsimp only
      rw [wrap_succ (by omega)]
      exact hk
    · rw [hnth e]
      have hne : (nth l.Pages j).ID ≠ p.ID := by
        rw [hid]
        rcases Nat.lt_or_gt_of_ne e with h | h
        · have := ascP_nth ha h hi; omega
        · have := ascP_nth ha h hj; omega
      refine Ok.n hne ?_
      try dsimp only
      rw [wrap_succ (by omega)]
      have e1 : (j + 1 ≤ i) = (j ≤ i) := by apply propext; omega
      simp only [e1] at hk
      exact hk
  · try dsimp only [lgA]
    rw [if_neg (by omega), if_neg (by omega)]
    refine Ok.n (by simp) (Ok.s ?_)
    rfl
theorem runL_is {id : Int} (h : LedgerInv M n l) (hpg : l.Pages.length ≤ 9) : r31_run_0c7c10c11 1000 l id l.Now = some (if hasV id l.Pages = true then runI l (posV id l.Pages) else l) := by
  have hcl := h.callsLe hpg
  refine Ok.eq ?_
  unfold r31_run_0c7c10c11
  refine Ok.oe (find0_is h.plens h.asc (by omega)) ?_
  unfold findV
  by_cases hh : hasV id l.Pages = true
  · rw [if_pos hh, if_pos hh]
    try dsimp only
    have hi := hasV_is hh
    obtain ⟨g1, g2⟩ := h.at hi.1
    obtain ⟨q, r1, r2, r3, r4⟩ := runV_pair (c := l.Config) h.book QT.step g1 l.Now
    have hx := runV_ext (c := l.Config) (now := l.Now) h.book g1
    rw [r1] at hx
    refine Ok.f (Ok.oe (run29_is h.cfg h.small h.book (g1.plen h.book)) ?_)
    rw [r1]
    try dsimp only
    refine Ok.n (by simp) (Ok.oe (put_is (i := posV id l.Pages) h.asc (by omega) (by omega) hi.1 r4.id (r2.plen h.book) ?_) (Ok.s ?_))
    · obtain ⟨m, hm⟩ := hx
      try dsimp only at hm
      rw [hm]; simp
    · unfold runI
      rw [r1, if_neg (by simp)]
  · rw [if_neg hh, if_neg hh]
    exact Ok.t (Ok.s rfl)
end
end Go.Proofs.YtfhcigjkfelnfaaGreat
/-
  Ledgers: what the reference's operations compute.
-/
set_option maxRecDepth 100000
set_option linter.unusedVariables false
set_option linter.unusedSimpArgs false
namespace Go.Proofs.YtfhcigjkfelnfaaGreat
open Go AM
attribute [local irreducible] dueV stepV runV checkV answerV
section
variable {n : Nat} {c : D.Config} {b : D.Book} {p q : D.Page} {now M : Int} {l : D.Ledger} {i : Nat} {o : D.Op}
theorem copyL_is (hp : ∀ p ∈ l.Pages, PageLen p) (h1 : l.Pages.length ≤ 64) (h2 : l.Seen.length ≤ 1000) (h3 : l.Calls.length ≤ 100000) : r31_Copy 1000 l = some l := by
  refine Ok.eq ?_
  unfold r31_Copy
  refine Ok.run l.Pages.length (fun i => (((i : Int), ()), l, ({ Now := 0, Config := { Zones := [], People := [], Calendars := [], Schedules := [] }, Book := { Teams := [], Policies := [] }, Pages := [], Owner := 0, Fence := 0, Seen := [], Calls := [] } : D.Ledger), l.Pages.take i, ())) rfl (by omega) (fun i hi k hk => ?_) (fun k => ?_)
  · try dsimp only
    refine Ok.p (by omega) (Ok.atn hi (Ok.oe (copy29_is (hp _ (nth_mem hi))) (Ok.lec (by simp; omega) ?_)))
    try dsimp only
    rw [wrap_succ (by omega), take_snoc' hi]
    exact hk
  · try dsimp only
    rw [List.take_length]
    exact Ok.n (by omega) (Ok.lec (by omega) (Ok.lec (by omega) (Ok.s rfl)))
theorem take_set {α : Type} [Inhabited α] {L : List α} {k : Nat} {x : α} (h : k < L.length) : (L.take (k + 1)).set k x = L.take k ++ [x] := by
  rw [← take_snoc' h, List.set_append_right _ _ (by rw [List.length_take]; omega)]
  simp [Nat.min_eq_left (Nat.le_of_lt h)]
theorem ins_list {P : D.Page} {L : List D.Page} {k : Nat} (hk : k ≤ L.length) :
    (List.take (k + 1) (L ++ [P]) ++ List.take ((L ++ [P]).length - (k + 1)) (List.drop k (L ++ [P]))).set k P = L.take k ++ P :: L.drop k := by
  have hl : (L ++ [P]).length = L.length + 1 := by simp
  rw [List.set_append_left _ _ (by rw [List.length_take, hl]; omega), take_set (by rw [hl]; omega), List.take_append_of_le_length hk, List.drop_append_of_le_length hk, hl,
    show L.length + 1 - (k + 1) = (L.drop k).length by simp, List.take_left, List.append_assoc]
  rfl
theorem posV_is {id : Int} {L : List D.Page} (ha : AscP L) {k : Nat} (hk : k ≤ L.length) (h1 : ∀ j, j < k → (nth L j).ID < id) (h2 : k < L.length → id ≤ (nth L k).ID) : posV id L = k := by
  rcases Nat.lt_trichotomy (posV id L) k with h | h | h
  · have := posV_hi ha (id := id) (Nat.le_refl _) (show posV id L < L.length by omega)
    have := h1 _ h; omega
  · exact h
  · have := posV_lo (l := L) h
    have := h2 (by have := posV_le (id := id) (l := L); omega); omega
theorem open_is (h : LedgerInv M n l) (hpg : l.Pages.length ≤ 8) (ho : OpIn o) (hk : o.Kind = 1) : r31_open_0c7c10c11 1000 l o l.Now (hasV o.Page l.Pages) = some (opV l o) := by
  have hnow := h.now; have htop := h.top; have hpl := h.book.plen; have hop := ho.page
  have hsl := h.seen.len; have hcl := h.callsLe (by omega)
  refine Ok.eq ?_
  unfold r31_open_0c7c10c11 opV
  rw [if_pos hk]
  refine Ok.cnd (fun g => Ok.s ?_) (fun g => ?_)
  · rw [if_pos g]
  rw [if_neg (by rw [g]; simp)]
  refine Ok.n (by omega) ?_
  rw [if_neg (by omega)]
  refine Ok.oe (new29_is h.book) ?_
  unfold newV
  by_cases g1 : o.Page < 1
  · rw [if_pos g1, if_neg (fun hh => by have := inV_is.1 hh.1; omega)]
    exact Ok.p (by simp) (Ok.s rfl)
  rw [if_neg g1, if_pos ⟨inV_is.2 (by omega), inV_is.2 (by omega)⟩]
  by_cases g2 : 0 ≤ o.Policy ∧ o.Policy < (l.Book.Policies.length : Int)
  · rw [if_pos g2, if_pos (inV_is.2 (by omega))]
    try dsimp only
    refine Ok.n (by simp) ?_
    obtain ⟨hi1, hi2, hi3⟩ := h.open (o := o) g (by omega) g2 (by omega)
    have hple := posV_le (id := o.Page) (l := l.Pages)
    refine Ok.join (fun y => y = ((l.Now, ((posV o.Page l.Pages : Nat) : Int), ()), lgA l, ({ Now := 0, Config := { Zones := [], People := [], Calendars := [], Schedules := [] }, Book := { Teams := [], Policies := [] }, Pages := [], Owner := 0, Fence := 0, Seen := [], Calls := [] } : D.Ledger), newP o.Page o.Policy l.Now, l.Pages, l.Seen, l.Calls, ())) (fun y hy => ?_) (fun J hJ => ?_)
    · subst hy
      try dsimp only [lgA]
      obtain ⟨P, hP⟩ : ∃ P, newP o.Page o.Policy l.Now = P := ⟨_, rfl⟩
      have hPid : P.ID = o.Page := by subst hP; rfl
      rw [hP] at hi1 hi2 hi3 ⊢
      have hins : insP l.Pages P = l.Pages.take (posV o.Page l.Pages) ++ P :: l.Pages.drop (posV o.Page l.Pages) := by unfold insP; rw [hPid]
      have hle1 : (l.Pages ++ [P]).length = l.Pages.length + 1 := by simp
      try dsimp only
      rw [wrap_succ (by omega)]
      refine Ok.lec (by simp; omega) (Ok.natn (Ok.lec (by omega) (Ok.natn (Ok.lec (by omega) (Ok.ck rfl (Ok.ck rfl (Ok.lec (by omega) (Ok.lec (by omega) (Ok.natn (Ok.lt ?_ (Ok.get ?_ ?_)))))))))))
      · simp only [List.length_append, List.length_take, List.length_drop, List.length_cons, List.length_nil]; omega
      · simp only [List.length_append, List.length_take, List.length_drop, List.length_cons, List.length_nil]; omega
      rw [ins_list hple, ← hins]
      have hrun := runL_is (id := P.ID) hi1 (by show (insP l.Pages P).length ≤ 9; rw [hins]; simp; omega)
      have hpos : posV P.ID (insP l.Pages P) = posV o.Page l.Pages := by
        have := posV_at hi1.asc hi2
        rw [hi3] at this; exact this
      have hhas : hasV P.ID (insP l.Pages P) = true := by
        have := hasV_at hi1.asc hi2
        rw [hi3] at this; exact this
      rw [if_pos hhas, hpos] at hrun
      exact Ok.oe hrun (Ok.s rfl)
    · have hfound : ∀ k : Nat, k ≤ l.Pages.length → (∀ j, j < k → (nth l.Pages j).ID < o.Page) → (k < l.Pages.length → o.Page ≤ (nth l.Pages k).ID) → Ok (J ((l.Now, (k : Int), ()), lgA l, ({ Now := 0, Config := { Zones := [], People := [], Calendars := [], Schedules := [] }, Book := { Teams := [], Policies := [] }, Pages := [], Owner := 0, Fence := 0, Seen := [], Calls := [] } : D.Ledger), newP o.Page o.Policy l.Now, l.Pages, l.Seen, l.Calls, ())) _ := fun k h1 h2 h3 => hJ _ (by rw [posV_is h.asc h1 h2 h3])
      refine Ok.scan2 l.Pages.length (fun i => (l.Now, (i : Int), ())) (fun i => !decide ((nth l.Pages i).ID < o.Page)) rfl (by omega) (fun i hi hq hj k => ?_) (fun i hi hq k hk => ?_) (fun hq k => ?_)
      · refine Ok.j ?_
        dsimp only
        refine Ok.p (by omega) (Ok.natn (Ok.lt hi (Ok.get hi (Ok.n ?_ (hfound i (by omega) (fun j hj' => by simpa using hj j hj') (fun _ => by simpa using hq))))))
        have : ¬ (nth l.Pages i).ID < o.Page := by simpa using hq
        exact this
      · have hlt : (nth l.Pages i).ID < o.Page := by simpa using hq
        refine Ok.j ?_
        dsimp only
        refine Ok.p (by omega) (Ok.natn (Ok.lt hi (Ok.get hi (Ok.p hlt ?_))))
        try dsimp only
        rw [wrap_succ (by omega)]; exact hk
      · refine Ok.j ?_
        dsimp only
        exact (Ok.n (by omega) (hfound l.Pages.length (Nat.le_refl _) (fun j hj' => by simpa using hq j hj') (fun hh => absurd hh (Nat.lt_irrefl _))))
  · rw [if_neg g2, if_neg (fun hh => g2 (by have := inV_is.1 hh; omega))]
    exact Ok.p (by simp) (Ok.s rfl)
theorem answerV_zero {a : D.Answer} (h : (answerV b p a).2 = 0) : (answerV b p a).1 = p ∨ (answerV b p a).1 = answerQ p a := by
  revert h
  unfold answerV
  split
  · intro h; simp at h
  · split
    · intro h; simp at h
    · split
      · intro _; exact .inl rfl
      · split
        · rename_i hr
          intro h; exact absurd h hr
        · intro _; exact .inr rfl
theorem runI_id (h : LedgerInv M n l) (hi : i < l.Pages.length) : (nth (runI l i).Pages i).ID = (nth l.Pages i).ID := by
  rw [runI_page h hi, if_pos rfl]
  exact (runV_kept h.book QT.step (h.at hi).1).id
theorem reply_is (h : LedgerInv M n l) (hpg : l.Pages.length ≤ 9) (hk : o.Kind = 4) (ha : validV o.Answer = true) : r31_reply_0c7c10c11 1000 l o.Answer l.Now = some (opV l o) := by
  have hcl := h.callsLe hpg
  refine Ok.eq ?_
  unfold r31_reply_0c7c10c11 opV
  rw [if_neg (by omega), if_neg (by omega), if_neg (by omega), if_pos hk]
  refine Ok.oe (find0_is h.plens h.asc (by omega)) ?_
  unfold findV
  by_cases hh : hasV o.Answer.Page l.Pages = true
  · rw [if_pos hh, if_pos hh]
    try dsimp only
    have hi := hasV_is hh
    have hrun := runL_is (id := o.Answer.Page) h hpg
    rw [if_pos hh] at hrun
    refine Ok.f (Ok.oe hrun ?_)
    have h2 := h.run hi.1
    have hkp := runI_keep (l := l) (i := posV o.Answer.Page l.Pages)
    obtain ⟨i, hie⟩ : ∃ i, posV o.Answer.Page l.Pages = i := ⟨_, rfl⟩
    rw [hie] at hi h2 hkp ⊢
    have hid2 : (nth (runI l i).Pages i).ID = o.Answer.Page := (runI_id h hi.1).trans hi.2
    have hi2 : i < (runI l i).Pages.length := by omega
    have hcl2 := h2.callsLe (by omega)
    refine Ok.oe (find0_is h2.plens h2.asc (by omega)) ?_
    rw [find_at h2.asc hi2 hid2]
    try dsimp only
    obtain ⟨a, hae⟩ : ∃ a : D.Answer, a = D.Answer.mk o.Answer.ID o.Answer.Page o.Answer.Person o.Answer.Kind o.Answer.Arg l.Now := ⟨_, rfl⟩
    rw [← hae]
    have hpl2 := h2.plens _ (nth_mem hi2)
    refine Ok.oe (answer29_is h2.book hpl2) ?_
    rw [hkp.2.2.1]
    have hz := answerV_zero (b := l.Book) (p := nth (runI l i).Pages i) (a := a)
    have hAl := hpl2.answerV (a := a) h.book
    obtain ⟨A, e, hA⟩ : ∃ A e, answerV l.Book (nth (runI l i).Pages i) a = (A, e) := ⟨_, _, rfl⟩
    rw [hA] at hz hAl ⊢
    try dsimp only at hz hAl ⊢
    by_cases he : e = 0
    · rw [if_pos he]
      have hq := hz he
      have hpid : A.ID = (nth (runI l i).Pages i).ID := by
        rcases hq with rfl | rfl
        · rfl
        · exact answerQ_id.1
      have hpst : (nth (runI l i).Pages i).Starts.length ≤ A.Starts.length := by
        rcases hq with rfl | rfl
        · exact Nat.le_refl _
        · obtain ⟨m, hm⟩ := answerQ_ext (p := nth (runI l i).Pages i) (a := a)
          rw [hm]; simp
      refine Ok.n (by omega) (Ok.oe (put_is (i := i) h2.asc (by omega) (by omega) hi2 hpid hAl hpst) (Ok.s rfl))
    · rw [if_neg he]
      exact Ok.p he (Ok.s rfl)
  · rw [if_neg hh, if_neg hh]
    exact Ok.t (Ok.s rfl)
theorem edit_is {x : D.Edit} {s : Int} (h : CfgOK n c) (hn : n < 48) (hx : EditOK x) : r13_Apply 1000 c s x = some (if 0 ≤ s ∧ s < 2 then (editV c s x, 0) else ({ Zones := [], People := [], Calendars := [], Schedules := [] }, 3)) := by
  have hsl := h.slen
  refine Ok.eq ?_
  unfold r13_Apply
  refine Ok.j (Ok.oe (check8_ok h (by omega)) (Ok.n (by simp) (Ok.ite (fun g => Ok.s ?_) (fun g => Ok.ite (fun g2 => Ok.s ?_) (fun g2 => ?_)))))
  · rw [if_neg (by omega)]
  · rw [if_neg (by omega)]
  · rw [if_pos (by omega)]
    try dsimp only
    have hso := h.sched _ (nth_mem (l := c.Schedules) (i := s.toNat) (by omega))
    have hlen := hso.len
    refine Ok.at (by omega) (by omega) (Ok.lec (by omega) (Ok.lec (by simp; omega) (Ok.oe (v := editV c s x) ?_ (Ok.oe (check8_ok (editV_ok h hx (by omega)) (by omega)) (Ok.n (by simp) (Ok.s rfl))))))
    refine Ok.eq ?_
    unfold r13_with
    refine Ok.lec (by omega) (Ok.nat (by omega) (Ok.lt (by omega) (Ok.get (by omega) (Ok.s ?_))))
    rfl
theorem apply0_is (h : LedgerInv M n l) (hn : n < 48) (hpg : l.Pages.length ≤ 8) (ho : OpIn o) : r31_apply_0c7c10c11 1000 l o l.Now = some (opV l o) := by
  have hfe := h.fence; have hse := h.seen.len; have hkd := ho.kind; have hof := ho.fence
  refine Ok.eq ?_
  unfold r31_apply_0c7c10c11
  refine Ok.oe (find0_is h.plens h.asc (by omega)) ?_
  have hf2 : (findV l o.Page).2 = hasV o.Page l.Pages := by
    unfold findV
    by_cases hh : hasV o.Page l.Pages = true
    · rw [if_pos hh, hh]
    · rw [if_neg hh]; simpa using hh
  obtain ⟨fp, fo, hfe2⟩ : ∃ fp fo, findV l o.Page = (fp, fo) := ⟨_, _, rfl⟩
  rw [hfe2] at hf2 ⊢
  try dsimp only at hf2 ⊢
  subst hf2
  refine Ok.j (Ok.ite (fun k1 => ?_) (fun k1 => Ok.ite (fun k2 => ?_) (fun k2 => Ok.ite (fun k3 => ?_) (fun k3 => Ok.ite (fun k4 => ?_) (fun k4 => Ok.ite (fun k5 => ?_) (fun k5 => absurd hkd (by omega)))))))
  · exact Ok.oe (open_is h hpg ho k1) (Ok.s rfl)
  · unfold opV
    rw [if_neg k1, if_pos k2, wrap_id (by omega)]
    refine Ok.ite (fun g => Ok.s ?_) (fun g => Ok.s ?_)
    · rw [if_neg (by omega)]
    · rw [if_pos (by omega)]
  · unfold opV
    rw [if_neg k1, if_neg k2, if_pos k3]
    refine Ok.join (fun y => y = ((l.Now, hasV o.Page l.Pages, ()), lgA l, o, ({ Now := 0, Config := { Zones := [], People := [], Calendars := [], Schedules := [] }, Book := { Teams := [], Policies := [] }, Pages := [], Owner := 0, Fence := 0, Seen := [], Calls := [] } : D.Ledger), fp, l.Pages, l.Seen, l.Calls, ()) ∧ o.Region = l.Owner ∧ o.Fence = l.Fence) (fun y hy => ?_) (fun J hJ => Ok.ite (fun g => Ok.s ?_) (fun g => Ok.ite (fun g2 => Ok.s ?_) (fun g2 => hJ _ ⟨rfl, by omega, by omega⟩)))
    · obtain ⟨rfl, g1, g2⟩ := hy
      try dsimp only [lgA]
      rw [if_pos ⟨g1, g2⟩]
      refine Ok.ncnd (fun hh => Ok.s ?_) (fun hh => ?_)
      · rw [if_neg (by rw [hh]; simp)]
      · rw [if_pos hh]
        have hfp : fp = nth l.Pages (posV o.Page l.Pages) := by
          unfold findV at hfe2
          rw [if_pos hh] at hfe2
          exact (Prod.mk.inj hfe2).1.symm
        subst hfp
        have hrun := runL_is (id := o.Page) h (by omega)
        rw [if_pos hh] at hrun
        refine Ok.oe due29_is ?_
        obtain ⟨pg, hpg2⟩ : ∃ pg, nth l.Pages (posV o.Page l.Pages) = pg := ⟨_, rfl⟩
        rw [hpg2]
        obtain ⟨kk, hkk⟩ : ∃ kk : Int, (if pg.State = 2 then (-1 : Int) else pg.Next) = kk := ⟨_, rfl⟩
        rw [hkk]
        have hw : waitB pg l.Now = ((dueV pg).2 && decide ((dueV pg).1 ≤ l.Now)) := rfl
        refine Ok.join (fun y => y = ((l.Now, (dueV pg).1, (dueV pg).2, kk, ()), lgA l, o, ({ Now := 0, Config := { Zones := [], People := [], Calendars := [], Schedules := [] }, Book := { Teams := [], Policies := [] }, Pages := [], Owner := 0, Fence := 0, Seen := [], Calls := [] } : D.Ledger), l.Pages, l.Seen, l.Calls, ())) (fun y hy => ?_) (fun J hJ => Ok.ite (fun g => hJ _ (by rw [← hkk, if_pos g])) (fun g => hJ _ (by rw [← hkk, if_neg g])))
        subst hy
        try dsimp only [lgA]
        refine Ok.j (Ok.cnd (fun g3 => Ok.ite (fun g4 => Ok.s ?_) (fun g4 => Ok.ite (fun g5 => Ok.s ?_) (fun g5 => Ok.oe hrun (Ok.s ?_)))) (fun g3 => Ok.s ?_))
        · rw [if_neg (fun hx => by rw [hw, g3] at hx; have := of_decide_eq_true (show decide ((dueV pg).1 ≤ l.Now) = true by simpa using hx.1); omega)]
        · rw [if_neg (fun hx => g5 hx.2.symm)]
        · rw [if_pos ⟨by rw [hw, g3]; simp; omega, by omega⟩]
        · rw [if_neg (fun hx => by rw [hw, g3] at hx; simp at hx)]
    · rw [if_neg (by omega)]
    · rw [if_neg (by omega)]
  · exact Ok.oe (reply_is h (by omega) k4 (ho.answer k4).1) (Ok.s rfl)
  · unfold opV
    rw [if_neg k1, if_neg k2, if_neg k3, if_neg k4]
    have hkeep : ∀ i, (runAll l i).Now = l.Now ∧ (runAll l i).Config = l.Config ∧ (runAll l i).Book = l.Book ∧ (runAll l i).Owner = l.Owner ∧ (runAll l i).Fence = l.Fence ∧ (runAll l i).Seen = l.Seen ∧ (runAll l i).Pages.length = l.Pages.length := fun i => runAll_keep
    refine Ok.run l.Pages.length (fun i => ((l.Now, (i : Int), ()), lgA (runAll l i), o, ({ Now := 0, Config := { Zones := [], People := [], Calendars := [], Schedules := [] }, Book := { Teams := [], Policies := [] }, Pages := [], Owner := 0, Fence := 0, Seen := [], Calls := [] } : D.Ledger), (runAll l i).Pages, (runAll l i).Seen, (runAll l i).Calls, ())) rfl (by omega) (fun i hi k hk => ?_) (fun k => ?_)
    · try dsimp only [lgA]
      have hki := hkeep i
      have hi2 : i < (runAll l i).Pages.length := by omega
      have hL := h.runs (k := i) (by omega)
      have hrun := runL_is (id := (nth (runAll l i).Pages i).ID) hL (by omega)
      rw [if_pos (hasV_at hL.asc hi2), posV_at hL.asc hi2, hki.1] at hrun
      refine Ok.p (by omega) (Ok.natn (Ok.lt hi2 (Ok.get hi2 (Ok.oe hrun ?_))))
      try dsimp only
      rw [wrap_succ (by omega)]
      exact hk
    · try dsimp only [lgA]
      have hki := hkeep l.Pages.length
      refine Ok.n (by omega) ?_
      have hed := edit_is (c := l.Config) (s := o.Schedule) h.cfg hn (ho.edit k5)
      refine Ok.oe (v := if 0 ≤ o.Schedule ∧ o.Schedule < 2 then (editV l.Config o.Schedule o.Edit, 0) else ({ Zones := [], People := [], Calendars := [], Schedules := [] }, 3)) ?_ ?_
      · rw [← hed]
        show r13_Apply 1000 (runAll l l.Pages.length).Config _ _ = _
        rw [hki.2.1]
      · by_cases hs : 0 ≤ o.Schedule ∧ o.Schedule < 2
        · rw [if_pos hs, if_pos hs]
          exact Ok.n (by simp) (Ok.s rfl)
        · rw [if_neg hs, if_neg hs]
          exact Ok.p (by simp) (Ok.s rfl)
theorem OpIn.valid (ho : OpIn o) : r31_Valid 1000 o = some true := by
  refine Ok.eq ?_
  unfold r31_Valid
  refine Ok.oe rin (Ok.bt (inV_is.2 ho.id) (Ok.oe rin (Ok.bt (inV_is.2 ho.kind) (Ok.oe rin (Ok.bt (inV_is.2 ho.region) (Ok.oe rin (Ok.bt (inV_is.2 ho.fence) (Ok.oe rin (Ok.bt (inV_is.2 ho.at_) (Ok.oe rin (Ok.bt (inV_is.2 ho.page) (Ok.oe rin (Ok.bt (inV_is.2 ho.k) ?_)))))))))))))
  exact Ok.ite (fun g => Ok.s rfl) (fun g => Ok.oe valid28_is (Ok.bt (ho.answer (by omega)).1 (Ok.s rfl)))
theorem applyL_is (h : LedgerInv M n l) (hn : n < 48) (hpg : l.Pages.length ≤ 8) (ho : OpIn o) (ht : max l.Now o.At ≤ M - 20000) (hl : l.Seen.length < 256) : r31_Apply 1000 l o = some (applyV l o) := by
  have hcl := h.callsLe (by omega)
  refine Ok.eq ?_
  unfold r31_Apply applyV
  refine Ok.j (Ok.oe (ledger_check h (by omega)) (Ok.t (Ok.oe ho.valid (Ok.t ?_))))
  try dsimp only
  refine Ok.oe (copyL_is h.plens (by omega) (by omega) (by omega)) (Ok.oe (has25_is (by omega)) (Ok.cnd (fun g => Ok.s ?_) (fun g => ?_)))
  · rw [if_pos g]
  · rw [if_neg (by rw [g]; simp)]
    have h2 := h.see ho ht g hl
    refine Ok.n (by omega) (Ok.lec (by simp; omega) (Ok.oe (apply0_is (l := { l with Now := max l.Now o.At, Seen := l.Seen ++ [o.ID] }) h2 hn hpg ho) (Ok.s rfl)))
end
end Go.Proofs.YtfhcigjkfelnfaaGreat
/-
  Operations and ledgers that are made by dice.
-/
set_option maxRecDepth 100000
set_option linter.unusedVariables false
set_option linter.unusedSimpArgs false
namespace Go.Proofs.YtfhcigjkfelnfaaGreat
open Go AM
attribute [local irreducible] dueV stepV runV checkV answerV
section
variable {n : Nat} {c : D.Config} {b : D.Book} {p q : D.Page} {now M m : Int} {l : D.Ledger} {i : Nat} {o : D.Op} {L : List Int} {d : D.Dice}
def Ids (m : Int) (l : D.Ledger) : Prop := ∀ p ∈ l.Pages, p.ID ≤ m
theorem Ids.mono {k : Int} (h : Ids m l) (hk : m ≤ k) : Ids k l := fun p hp => Int.le_trans (h p hp) hk
theorem ids_len {L : List D.Page} (ha : AscP L) {k : Nat} (h : ∀ p ∈ L, 1 ≤ p.ID ∧ p.ID ≤ (k : Int)) : L.length ≤ k := by
  have hlo : ∀ i, i < L.length → (i : Int) + 1 ≤ (nth L i).ID := by
    intro i
    induction i with
    | zero => intro hi; have := (h _ (nth_mem hi)).1; omega
    | succ i ih =>
      intro hi
      have := ih (by omega)
      have := ascP_nth ha (show i < i + 1 by omega) hi
      omega
  rcases Nat.lt_or_ge k L.length with h1 | h1
  · have h2 := hlo (L.length - 1) (by omega)
    have h3 := (h _ (nth_mem (l := L) (i := L.length - 1) (by omega))).2
    omega
  · exact h1
theorem LedgerInv.small3 {k : Nat} (h : LedgerInv M n l) (hi : Ids (k : Int) l) : l.Pages.length ≤ k :=
  ids_len h.asc fun p hp => ⟨(h.page p hp).1.id.1, hi p hp⟩
theorem Ids.put (h : Ids m l) (hi : i < l.Pages.length) (hp : p.ID = (nth l.Pages i).ID) : Ids m (putV l i p) := fun q hq => by
  rcases List.mem_or_eq_of_mem_set hq with hq | rfl
  · exact h q hq
  · rw [hp]; exact h _ (nth_mem hi)
theorem Ids.run (h : Ids m l) (hl : LedgerInv M n l) (hi : i < l.Pages.length) : Ids m (runI l i) := by
  rw [hl.runEq hi]
  exact h.put hi (runV_kept hl.book QT.step (hl.at hi).1).id
theorem Ids.runs (h : Ids m l) (hl : LedgerInv M n l) : ∀ {k : Nat}, k ≤ l.Pages.length → Ids m (runAll l k)
  | 0, _ => h
  | k + 1, hk => by
    rw [runAll]
    exact (Ids.runs h hl (k := k) (by omega)).run (hl.runs (by omega)) (by have := (runAll_keep (l := l) (k := k)).2.2.2.2.2.2; omega)
theorem Ids.op (h : Ids m l) (hl : LedgerInv M n l) (ho : OpIn o) (hp : o.Kind = 1 → o.Page ≤ m) : Ids m (opV l o).1 := by
  unfold opV
  split
  · rename_i k1
    split
    · exact h
    · rename_i hh
      split
      · exact h
      · split
        · exact h
        · split
          · rename_i h1 h2 h3
            have hop := ho.page
            have hi := hl.open (o := o) (by simpa using hh) (by omega) h3 (by have := hl.len; omega)
            have hid : Ids m { l with Pages := insP l.Pages (newP o.Page o.Policy l.Now) } := fun q hq => by
              rcases insP_mem.1 hq with rfl | hq
              · exact hp k1
              · exact h q hq
            exact hid.run hi.1 hi.2.1
          · exact h
  · split
    · split
      · exact h
      · exact h
    · split
      · split
        · split
          · rename_i hh
            generalize (if (nth l.Pages (posV o.Page l.Pages)).State = 2 then (-1 : Int) else (nth l.Pages (posV o.Page l.Pages)).Next) = kk
            split
            · exact h.run hl (hasV_is hh).1
            · exact h
          · exact h
        · exact h
      · split
        · split
          · rename_i hh
            have hi := (hasV_is hh).1
            split
            · rename_i he
              have h2 := hl.run hi
              have hk := runI_keep (l := l) (i := posV o.Answer.Page l.Pages)
              refine (h.run hl hi).put (by omega) ?_
              rcases answerV_zero he with e | e
              · rw [e]
              · rw [e]; exact answerQ_id.1
            · exact h.run hl hi
          · exact h
        · split
          · exact h.runs hl (Nat.le_refl _)
          · exact h.runs hl (Nat.le_refl _)
theorem Ids.apply (h : Ids m l) (hl : LedgerInv M n l) (ho : OpIn o) (ht : max l.Now o.At ≤ M - 20000) (hs : l.Seen.length < 256) (hp : o.Kind = 1 → o.Page ≤ m) : Ids m (applyV l o).1 := by
  unfold applyV
  split
  · exact h
  · rename_i hse
    exact Ids.op (l := { l with Now := max l.Now o.At, Seen := l.Seen ++ [o.ID] }) h (hl.see ho ht (by simpa using hse) hs) ho hp
theorem opV_keep : (opV l o).1.Now = l.Now ∧ (opV l o).1.Seen = l.Seen := by
  unfold opV
  have h1 := fun i => runI_keep (l := l) (i := i)
  have h2 := fun k => runAll_keep (l := l) (k := k)
  split
  · split
    · exact ⟨rfl, rfl⟩
    · split
      · exact ⟨rfl, rfl⟩
      · split
        · exact ⟨rfl, rfl⟩
        · split
          · exact ⟨(runI_keep (l := { l with Pages := insP l.Pages (newP o.Page o.Policy l.Now) })).1, (runI_keep (l := { l with Pages := insP l.Pages (newP o.Page o.Policy l.Now) })).2.2.2.2.2.1⟩
          · exact ⟨rfl, rfl⟩
  · split
    · split <;> exact ⟨rfl, rfl⟩
    · split
      · split
        · split
          · generalize (if (nth l.Pages (posV o.Page l.Pages)).State = 2 then (-1 : Int) else (nth l.Pages (posV o.Page l.Pages)).Next) = kk
            split
            · exact ⟨(h1 _).1, (h1 _).2.2.2.2.2.1⟩
            · exact ⟨rfl, rfl⟩
          · exact ⟨rfl, rfl⟩
        · exact ⟨rfl, rfl⟩
      · split
        · split
          · split
            · exact ⟨(h1 _).1, (h1 _).2.2.2.2.2.1⟩
            · exact ⟨(h1 _).1, (h1 _).2.2.2.2.2.1⟩
          · exact ⟨rfl, rfl⟩
        · split
          · exact ⟨(h2 _).1, (h2 _).2.2.2.2.2.1⟩
          · exact ⟨(h2 _).1, (h2 _).2.2.2.2.2.1⟩
theorem applyV_keep : (applyV l o).1.Seen.length ≤ l.Seen.length + 1 ∧ ((applyV l o).1.Now = l.Now ∨ (applyV l o).1.Now = max l.Now o.At) := by
  unfold applyV
  split
  · exact ⟨by dsimp only; omega, .inl rfl⟩
  · have := opV_keep (l := { l with Now := max l.Now o.At, Seen := l.Seen ++ [o.ID] }) (o := o)
    exact ⟨by rw [this.2]; simp, .inr this.1⟩
theorem waiting_ok {t : Int} (h : LedgerInv M n l) (hpg : l.Pages.length ≤ 9) : Ok (r31_Waiting 1000 l t) fun w => w.length ≤ 9 ∧ ∀ s ∈ w, ∃ p ∈ l.Pages, s.K = p.ID := by
  unfold r31_Waiting
  refine Ok.j ?_
  refine Ok.loop (fun m x => ∃ (i : Nat) (w : List D.Start), x = ((t, (i : Int), ()), l, w, ()) ∧ i ≤ l.Pages.length ∧ w.length ≤ i ∧ (∀ s ∈ w, ∃ p ∈ l.Pages, s.K = p.ID) ∧ m = l.Pages.length - i) (m := l.Pages.length) (by omega) ⟨0, [], rfl, by omega, by simp, by simp, rfl⟩ ?_
  rintro m x ⟨i, w, rfl, i1, i2, i3, rfl⟩ K hK
  try dsimp only
  refine Ok.j (Ok.ite (fun hi => ?_) (fun hi => Ok.s ⟨by omega, i3⟩))
  have hlt : i < l.Pages.length := by omega
  refine Ok.oe (ledger_check h hpg) (Ok.t ?_)
  try dsimp only
  have next : ∀ w : List D.Start, w.length ≤ i + 1 → (∀ s ∈ w, ∃ p ∈ l.Pages, s.K = p.ID) → Ok (K ((t, IntKind.wrap .i64 ((i : Int) + 1), ()), l, w, ())) fun w => w.length ≤ 9 ∧ ∀ s ∈ w, ∃ p ∈ l.Pages, s.K = p.ID := fun w h1 h2 => by
    try dsimp only
    rw [wrap_succ (by omega)]
    exact hK _ _ (by omega) ⟨i + 1, w, rfl, by omega, h1, h2, rfl⟩
  refine Ok.j (Ok.atn hlt (Ok.oe due29_is (Ok.cnd (fun g => Ok.ite (fun g2 => Ok.atn hlt (Ok.lec (by simp; omega) (next _ (by simp; omega) ?_))) (fun g2 => next w (by omega) i3)) (fun g => next w (by omega) i3))))
  exact mem_snoc i3 ⟨_, nth_mem hlt, rfl⟩
theorem op_ok {id t : Int} (hL : L.length ≤ 500) (hd : DiceOK L d) (h : LedgerInv M n l) (hids : Ids 3 l) (hid : 1 ≤ id ∧ id ≤ 1000) (ht : 0 ≤ t ∧ t ≤ 8589934592) :
    Ok (made_Dice_Op 1000 d l id t) fun r => DiceOK L r.2 ∧ OpIn r.1 ∧ r.1.ID = id ∧ r.1.At = t ∧ (r.1.Kind = 1 → r.1.Page ≤ 3) := by
  have hpl := h.book.plen; have hfe := h.fence; have hse := h.seen.len; have how := h.owner
  have hpg := h.small3 (k := 3) hids
  unfold made_Dice_Op
  refine Ok.opt (nx hL hd (by omega) (by omega)) fun ⟨a0, d1⟩ ⟨h1, l1, u1⟩ => ?_
  try dsimp only at h1 l1 u1 ⊢
  refine Ok.opt (nx hL h1 (by omega) (by omega)) fun ⟨a2, d3⟩ ⟨h3, l3, u3⟩ => ?_
  try dsimp only at h3 l3 u3 ⊢
  refine Ok.opt (nx hL h3 (by omega) (by omega)) fun ⟨a4, d5⟩ ⟨h5, l5, u5⟩ => ?_
  try dsimp only at h5 l5 u5 ⊢
  rw [wrap_id (x := 1 + a0) (by omega), wrap_id (x := 1 + a4) (by omega)]
  have noEdit : ∀ {P : Prop}, ¬ (1 + a0 = 5) → 1 + a0 = 5 → P := fun h1 h2 => absurd h2 h1
  refine Ok.j (Ok.ite (fun k1 => ?_) (fun k1 => Ok.ite (fun k2 => ?_) (fun k2 => Ok.ite (fun k3 => ?_) (fun k3 => Ok.ite (fun k4 => ?_) (fun k4 => Ok.ite (fun k5 => ?_) (fun k5 => ?_))))))
  · refine Ok.opt (nx hL h5 (by omega) (by omega)) fun ⟨a10, d11⟩ ⟨h11, l11, u11⟩ => ?_
    try dsimp only at h11 l11 u11 ⊢
    rw [wrap_id (x := ((l.Book.Policies.length : Nat) : Int) + 1) (by omega), wrap_id (x := ((l.Book.Policies.length : Nat) : Int) + 1 - a10) (by omega)]
    refine Ok.opt (nx hL h11 (by omega) (by omega)) fun ⟨a12, d13⟩ ⟨h13, l13, u13⟩ => Ok.s ⟨h13, ?_, rfl, rfl, fun _ => by dsimp only; omega⟩
    exact ⟨by dsimp only; omega, by dsimp only; omega, by dsimp only; omega, by dsimp only; omega, ht, by dsimp only; omega, by dsimp only; omega, fun e => absurd (show 1 + a0 = 4 from e) (by omega), fun e => absurd (show 1 + a0 = 5 from e) (by omega)⟩
  · refine Ok.opt (one_ok hL h5 (by simp) (by simp)) fun ⟨a14, d15⟩ ⟨h15, m15⟩ => ?_
    try dsimp only at h15 m15 ⊢
    simp only [List.mem_cons, List.not_mem_nil, or_false] at m15
    try dsimp only
    rw [wrap_id (x := l.Fence + a14) (by omega)]
    refine Ok.s ⟨h15, ?_, rfl, rfl, fun e => absurd (show 1 + a0 = 1 from e) k1⟩
    exact ⟨by dsimp only; omega, by dsimp only; omega, by dsimp only; omega, by dsimp only; omega, ht, by dsimp only; omega, by dsimp only; omega, fun e => absurd (show 1 + a0 = 4 from e) (by omega), fun e => absurd (show 1 + a0 = 5 from e) (by omega)⟩
  · -- a proposed start
    have hop : ∀ o : D.Op, OpIn o → o.ID = id → o.At = t → o.Kind = 3 → ∀ d, DiceOK L d → Ok (some (o, d)) fun r => DiceOK L r.2 ∧ OpIn r.1 ∧ r.1.ID = id ∧ r.1.At = t ∧ (r.1.Kind = 1 → r.1.Page ≤ 3) := fun o h1 h2 h3 h4 d hd => Ok.s ⟨hd, h1, h2, h3, fun e => absurd (show o.Kind = 1 from e) (by omega)⟩
    refine Ok.join (fun y => ∃ (d : D.Dice) (z o : D.Op), y = ((t, 1 + a4, ()), d, l, z, o, ()) ∧ DiceOK L d ∧ OpIn o ∧ o.ID = id ∧ o.At = t ∧ o.Kind = 3) (fun y hy => ?_) (fun J hJ => ?_)
    · obtain ⟨d, z, o, rfl, j1, j2, j3, j4, j5⟩ := hy
      try dsimp only
      refine Ok.join (fun y => ∃ (d : D.Dice) (z o : D.Op), y = ((t, 1 + a4, ()), d, l, z, o, ()) ∧ DiceOK L d ∧ OpIn o ∧ o.ID = id ∧ o.At = t ∧ o.Kind = 3) (fun y hy => ?_) (fun J hJ => ?_)
      · obtain ⟨d, z, o, rfl, j1, j2, j3, j4, j5⟩ := hy
        try dsimp only
        refine Ok.join (fun y => ∃ (d : D.Dice) (z o : D.Op), y = ((), l, z, o, d, ()) ∧ DiceOK L d ∧ OpIn o ∧ o.ID = id ∧ o.At = t ∧ o.Kind = 3) (fun y hy => ?_) (fun J hJ => ?_)
        · obtain ⟨d, z, o, rfl, j1, j2, j3, j4, j5⟩ := hy
          try dsimp only
          refine Ok.oe (find_is h.plens h.asc (by omega)) ?_
          unfold findV
          by_cases hh : hasV o.Page l.Pages = true
          · rw [if_pos hh]
            try dsimp only
            have hi := hasV_is hh
            obtain ⟨g1, _⟩ := h.at hi.1
            have hnx := (checkV_facts (g1.check h.book)).next
            have hcn := countV_is (g1.polOK h.book)
            refine Ok.t (Ok.ite (fun g => Ok.s ⟨j1, ?_, j3, j4, fun e => absurd (show o.Kind = 1 from e) (by omega)⟩) (fun g => Ok.s ⟨j1, ?_, j3, j4, fun e => absurd (show o.Kind = 1 from e) (by omega)⟩))
            · exact ⟨j2.id, j2.kind, j2.region, j2.fence, j2.at_, j2.page, by dsimp only; omega, j2.answer, j2.edit⟩
            · exact ⟨j2.id, j2.kind, j2.region, j2.fence, j2.at_, j2.page, by dsimp only; omega, j2.answer, j2.edit⟩
          · rw [if_neg hh]
            exact Ok.f (hop _ j2 j3 j4 j5 _ j1)
        · refine Ok.opt (waiting_ok h (by omega)) fun w ⟨w1, w2⟩ => ?_
          refine Ok.ite (fun g => ?_) (fun g => hJ _ ⟨_, _, _, rfl, j1, ⟨j2.id, j2.kind, j2.region, j2.fence, j2.at_, by dsimp only; omega, j2.k, j2.answer, j2.edit⟩, j3, j4, j5⟩)
          refine Ok.opt (nx hL j1 (by omega) (by omega)) fun ⟨a36, d37⟩ ⟨h37, l37, u37⟩ => ?_
          try dsimp only at h37 l37 u37 ⊢
          refine Ok.at l37 u37 (hJ _ ⟨_, _, _, rfl, h37, ⟨j2.id, j2.kind, j2.region, j2.fence, j2.at_, ?_, j2.k, j2.answer, j2.edit⟩, j3, j4, j5⟩)
          obtain ⟨p, hp, e⟩ := w2 _ (nth_mem (l := w) (i := a36.toNat) (by omega))
          have := (h.page p hp).1.id
          try dsimp only
          omega
      · refine Ok.opt (nx hL j1 (by omega) (by omega)) fun ⟨a40, d41⟩ ⟨h41, _⟩ => Ok.ite (fun g => ?_) (fun g => hJ _ ⟨_, _, _, rfl, h41, j2, j3, j4, j5⟩)
        try dsimp only at h41
        refine Ok.opt (nx hL h41 (by omega) (by omega)) fun ⟨a42, d43⟩ ⟨h43, l43, u43⟩ => hJ _ ⟨_, _, _, rfl, h43, ⟨j2.id, j2.kind, j2.region, ?_, j2.at_, j2.page, j2.k, j2.answer, j2.edit⟩, j3, j4, j5⟩
        try dsimp only at l43 u43 ⊢
        omega
    · refine Ok.opt (nx hL h5 (by omega) (by omega)) fun ⟨a45, d46⟩ ⟨h46, _⟩ => Ok.ite (fun g => ?_) (fun g => ?_)
      · try dsimp only at h46
        refine Ok.opt (nx hL h46 (by omega) (by omega)) fun ⟨a47, d48⟩ ⟨h48, l48, u48⟩ => hJ _ ⟨_, _, _, rfl, h48, ?_, rfl, rfl, k3⟩
        try dsimp only at l48 u48
        exact ⟨by dsimp only; omega, by dsimp only; omega, by dsimp only; omega, by dsimp only; omega, ht, by dsimp only; omega, by dsimp only; omega, fun e => absurd (show 1 + a0 = 4 from e) (by omega), fun e => absurd (show 1 + a0 = 5 from e) (by omega)⟩
      · refine hJ _ ⟨_, _, _, rfl, h46, ?_, rfl, rfl, k3⟩
        exact ⟨by dsimp only; omega, by dsimp only; omega, by dsimp only; omega, by dsimp only; omega, ht, by dsimp only; omega, by dsimp only; omega, fun e => absurd (show 1 + a0 = 4 from e) (by omega), fun e => absurd (show 1 + a0 = 5 from e) (by omega)⟩
  · refine Ok.opt (nx hL h5 (by omega) (by omega)) fun ⟨a49, d50⟩ ⟨h50, l50, u50⟩ => ?_
    try dsimp only at h50 l50 u50 ⊢
    rw [wrap_id (x := 1 + a49) (by omega)]
    refine Ok.opt (answer_ok hL h50) fun ⟨a, d52⟩ ⟨h52, ha, e1, e2, e3⟩ => Ok.s ⟨h52, ?_, rfl, rfl, fun e => absurd (show 1 + a0 = 1 from e) k1⟩
    try dsimp only at ha e1 e2 e3
    exact ⟨by dsimp only; omega, by dsimp only; omega, by dsimp only; omega, by dsimp only; omega, ht, by dsimp only; omega, by dsimp only; omega, fun _ => ⟨ha.valid (by omega) (by omega) (by omega), fun e => (ha.arg3 e).2⟩, fun e => absurd (show 1 + a0 = 5 from e) (by omega)⟩
  · refine Ok.opt (nx hL h5 (by omega) (by omega)) fun ⟨a53, d54⟩ ⟨h54, l54, u54⟩ => ?_
    try dsimp only at h54 l54 u54 ⊢
    refine Ok.opt (override_ok hL h54) fun ⟨x, d56⟩ ⟨h56, hx⟩ => Ok.s ⟨h56, ?_, rfl, rfl, fun e => absurd (show 1 + a0 = 1 from e) k1⟩
    try dsimp only at hx
    exact ⟨by dsimp only; omega, by dsimp only; omega, by dsimp only; omega, by dsimp only; omega, ht, by dsimp only; omega, by dsimp only; omega, fun e => absurd (show 1 + a0 = 4 from e) k4, fun _ => hx⟩
  · omega
structure MadeL (k : Nat) (l : D.Ledger) : Prop where
  inv : LedgerInv 1000000 (2 + k) l
  ids : Ids 3 l
  seen : l.Seen.length ≤ k
  now : l.Now ≤ 864000 + 700 * (k : Int)
theorem new_ledger (hc : CfgOK 2 c) (hb : BookOK b) : LedgerInv 1000000 2 { Now := 0, Config := c, Book := b, Pages := [], Owner := -1, Fence := 0, Seen := [], Calls := [] } :=
  ⟨by omega, by dsimp only; omega, by omega, hc, hb, by simp, List.Pairwise.nil, by simp, by dsimp only; omega, by simp, ⟨by simp, List.nodup_nil, by simp⟩, by simp, by simp⟩
theorem newL_is (hc : CfgOK n c) (hn : n ≤ 48) (hb : BookOK b) : r31_New 1000 c b = some ({ Now := 0, Config := c, Book := b, Pages := [], Owner := -1, Fence := 0, Seen := [], Calls := [] }, 0) := by
  refine Ok.eq ?_
  unfold r31_New
  exact Ok.oe (book25_is hc hn hb) (Ok.n (by simp) (Ok.s rfl))
theorem ledger_ok {k : Nat} (hL : L.length ≤ 500) (hd : DiceOK L d) (hk : k ≤ 9) :
    Ok (made_Dice_Ledger 1000 d (k : Int)) fun r => DiceOK L r.2.2 ∧ MadeL k r.1 := by
  unfold made_Dice_Ledger
  refine Ok.opt (crew_ok hL hd (by omega)) fun ⟨c, d1⟩ ⟨h1, hc⟩ => ?_
  try dsimp only at h1 hc ⊢
  refine Ok.opt (book_ok hL h1 (by omega)) fun ⟨b, d2⟩ ⟨h2, hb⟩ => ?_
  try dsimp only at h2 hb ⊢
  refine Ok.oe (newL_is hc (by omega) hb) ?_
  try dsimp only
  refine Ok.opt (P := fun r => DiceOK L r.2.2 ∧ MadeL k r.1) ?_ fun ⟨l, ops, d⟩ hr => Ok.s hr
  unfold made_Dice_Grow
  refine Ok.loop (fun m x => x = (((k : Int), 864000, 1, 0, ()), d2, { Now := 0, Config := c, Book := b, Pages := [], Owner := -1, Fence := 0, Seen := [], Calls := [] }, (0, 0, 0, ()), ())) (m := 0) (by omega) rfl ?_
  rintro m x rfl K hK
  try dsimp only
  refine Ok.n (by simp) ?_
  try dsimp only
  rw [wrap_id (x := (k : Int) + 1) (by omega)]
  refine Ok.opt (nx hL h2 (by omega) (by omega)) fun ⟨a11, d12⟩ ⟨h12, l12, u12⟩ => ?_
  try dsimp only at h12 l12 u12 ⊢
  have hM0 : MadeL 0 { Now := 0, Config := c, Book := b, Pages := [], Owner := -1, Fence := 0, Seen := [], Calls := [] } := ⟨new_ledger hc hb, fun p hp => by simp at hp, Nat.le_refl _, by dsimp only; omega⟩
  refine Ok.loop (fun m x => ∃ (j : Nat) (t i : Int) (d : D.Dice) (l : D.Ledger) (z : Int × Int × Int × Unit) (ops : List D.Op), x = ((t, (j : Int) + 1, i, ()), d, l, z, ops, ()) ∧ DiceOK L d ∧ MadeL j l ∧ (864000 ≤ t ∧ t ≤ 864000 + 700 * (j : Int)) ∧ 0 ≤ i ∧ (j : Int) + i ≤ (k : Int) ∧ ops.length ≤ j ∧ m = i.toNat) (m := a11.toNat) (by omega)
    ⟨0, 864000, a11, d12, _, _, [], rfl, h12, hM0, by omega, l12, by omega, by simp, rfl⟩ ?_
  rintro m x ⟨j, t, i, d, l, z, ops, rfl, i1, i2, i3, i4, i5, i6, rfl⟩ K2 hK2
  obtain ⟨z1, z2, z3, ⟨⟩⟩ := z
  try dsimp only
  refine Ok.ite (fun hi => ?_) (fun hi => Ok.s ⟨i1, ?_⟩)
  · refine Ok.opt (one_ok hL i1 (by simp) (by simp)) fun ⟨a23, d24⟩ ⟨h24, m24⟩ => ?_
    try dsimp only at h24 m24 ⊢
    simp only [List.mem_cons, List.not_mem_nil, or_false] at m24
    try dsimp only
    rw [wrap_id (x := t + a23) (by omega)]
    obtain ⟨u, hu⟩ : ∃ u, t + a23 = u := ⟨_, rfl⟩
    rw [hu]
    have hnow := i2.now; have hsl := i2.seen
    refine Ok.opt (op_ok hL h24 i2.inv i2.ids (by omega) (by omega)) fun ⟨o, d26⟩ ⟨h26, ho, e1, e2, e3⟩ => ?_
    try dsimp only at h26 ho e1 e2 e3 ⊢
    have hp3 := i2.inv.small3 (k := 3) i2.ids
    have happ := applyL_is i2.inv (by omega) (by omega) ho (by omega) (by omega)
    have hinv := i2.inv.apply (by omega) ho (by omega) (by omega)
    have hids := i2.ids.apply i2.inv ho (by omega) (by omega) e3
    have hkp := applyV_keep (l := l) (o := o)
    have hp3' := hinv.small3 (k := 3) hids
    refine Ok.join (fun y => ∃ l : D.Ledger, y = ((u, (j : Int) + 2, i, ()), d26, l, (z1, z2, z3, ()), o, ops, ()) ∧ MadeL (j + 1) l) (fun y hy => ?_) (fun J hJ => ?_)
    · obtain ⟨l', rfl, hl'⟩ := hy
      try dsimp only
      rw [wrap_id (x := i - 1) (by omega)]
      refine Ok.lec (by simp; omega) (hK2 (i - 1).toNat _ (by omega) ⟨j + 1, u, i - 1, d26, l', (z1, z2, z3, ()), ops ++ [o], ?_, h26, hl', by omega, by omega, by omega, by simp; omega, rfl⟩)
      simp only [Prod.mk.injEq, and_true, true_and]
      omega
    · refine Ok.oe happ ?_
      obtain ⟨l', e, hle⟩ : ∃ l' e, applyV l o = (l', e) := ⟨_, _, rfl⟩
      rw [hle] at hinv hids hkp hp3' ⊢
      try dsimp only at hinv hids hkp hp3' ⊢
      rw [show IntKind.wrap .i64 ((j : Int) + 1 + 1) = (j : Int) + 2 by rw [wrap_id (by omega)]; omega]
      refine Ok.oe (ledger_check hinv (by omega)) (Ok.t (hJ _ ⟨l', rfl, ⟨hinv, hids, by omega, by rcases hkp.2 with e | e <;> omega⟩⟩))
  · have hj : j ≤ k := by omega
    try dsimp only
    refine ⟨?_, i2.ids, by have := i2.seen; omega, by have := i2.now; omega⟩
    have := i2.inv
    exact ⟨this.top, this.now, by omega, this.cfg.mono (by omega), this.book, this.page, this.asc, this.len, this.owner, this.fence, this.seen, this.told, this.all⟩
end
end Go.Proofs.YtfhcigjkfelnfaaGreat
/-
  Ledgers looked at: what the program's check computes.
-/
set_option maxRecDepth 100000
set_option linter.unusedVariables false
set_option linter.unusedSimpArgs false
namespace Go.Proofs.YtfhcigjkfelnfaaGreat
open Go AM
attribute [local irreducible] dueV stepV runV checkV answerV
section
variable {n : Nat} {c : D.Config} {b : D.Book} {p q : D.Page} {now M : Int} {l : D.Ledger} {i : Nat}
theorem nameE_t : ∀ i, i < 2 → lexer_Name 1000 (nth bTeams i) = some true := forall2 (by kernel_rfl) (by kernel_rfl)
theorem nameE_p : ∀ i, i < 3 → lexer_Name 1000 (nth bPols i) = some true := forall3 (by kernel_rfl) (by kernel_rfl) (by kernel_rfl)
theorem earlier_t (hb : BookOK b) {i : Nat} (hi : i < b.Teams.length) : policy_earlier_1Fpolicy_Check_1 1000 (i : Int) b = some false := by
  have htl := hb.tlen
  have hone : ∀ j, j < b.Teams.length → policy_Check_1 1000 (j : Int) b = some (nth bTeams j) := fun j hj => by
    refine Ok.eq ?_
    unfold policy_Check_1
    exact Ok.atn hj (Ok.sameC (Ok.s (hb.tnm hj)))
  refine Ok.eq ?_
  unfold policy_earlier_1Fpolicy_Check_1
  refine Ok.run2 i (fun k => ((i : Int), (i : Int), (k : Int), ())) rfl (by omega) (fun k hk K hK => ?_) (fun K => by dsimp only; exact Ok.n (by omega) (Ok.sameC (Ok.s rfl)))
  try dsimp only
  refine Ok.p (by omega) (Ok.oe (hone k (by omega)) (Ok.oe (hone i hi) (Ok.n (bTeams_ne i (by omega) k hk) ?_)))
  try dsimp only
  rw [wrap_succ (by omega)]; exact hK
theorem earlier_p (hb : BookOK b) {i : Nat} (hi : i < b.Policies.length) : policy_earlier_1Fpolicy_check_1 1000 (i : Int) b = some false := by
  have htl := hb.plen
  have hone : ∀ j, j < b.Policies.length → policy_check_1 1000 (j : Int) b = some (nth bPols j) := fun j hj => by
    refine Ok.eq ?_
    unfold policy_check_1
    exact Ok.atn hj (Ok.sameC (Ok.s (hb.pnm hj)))
  refine Ok.eq ?_
  unfold policy_earlier_1Fpolicy_check_1
  refine Ok.run2 i (fun k => ((i : Int), (i : Int), (k : Int), ())) rfl (by omega) (fun k hk K hK => ?_) (fun K => by dsimp only; exact Ok.n (by omega) (Ok.sameC (Ok.s rfl)))
  try dsimp only
  refine Ok.p (by omega) (Ok.oe (hone k (by omega)) (Ok.oe (hone i hi) (Ok.n (bPols_ne i (by omega) k hk) ?_)))
  try dsimp only
  rw [wrap_succ (by omega)]; exact hK
theorem setP_is {t : D.Team} (h : CfgOK n c) (ht : TeamOK t) : policy_set 1000 c t.Members = some 0 := by
  have hpl := h.plen; have hml := ht.len
  refine Ok.eq ?_
  unfold policy_set
  refine Ok.n (by omega) (Ok.run2 (t.Members.length - 1) (fun k => (t.Members, ((k + 1 : Nat) : Int), ())) rfl (by omega) (fun k hk K hK => ?_) (fun K => ?_))
  · try dsimp only
    have := asc_nth ht.asc (show k < k + 1 by omega) (show k + 1 < t.Members.length by omega)
    refine Ok.p (by omega) (Ok.atn (by omega) ?_)
    rw [show IntKind.wrap .i64 (((k + 1 : Nat) : Int) - 1) = ((k : Nat) : Int) by rw [wrap_id (by omega)]; omega]
    refine Ok.atn (by omega) (Ok.n (by omega) ?_)
    try dsimp only
    rw [wrap_succ (by omega)]; exact hK
  · try dsimp only
    rw [hpl]
    have h1 := ht.mem _ (nth_mem (l := t.Members) (i := 0) (by omega))
    have h2 := ht.mem _ (nth_mem (l := t.Members) (i := t.Members.length - 1) (by omega))
    refine Ok.n (by omega) (Ok.j (Ok.at (by omega) (by omega) ?_))
    rw [show IntKind.wrap .i64 (((4 : Nat) : Int) - 1) = 3 from rfl, show IntKind.wrap .i64 (((t.Members.length : Nat) : Int) - 1) = ((t.Members.length - 1 : Nat) : Int) by rw [wrap_id (by omega)]; omega]
    refine Ok.oe pIn (Ok.p ⟨h1.1, by have := h1.2; show nth t.Members (0 : Int).toNat ≤ 3; simp only [Int.toNat_zero]; omega⟩ (Ok.atn (by omega) (Ok.oe pIn (Ok.p (by omega) (Ok.s rfl)))))
theorem stepE_is {s : D.PolicyStep} (h : CfgOK n c) (hb : BookOK b) (hs : StepOK' b.Teams.length s) : policy_step 1000 c b s = some 0 := by
  have hpl := h.plen; have hsl := h.slen; have htl := hb.tlen; have hw := hs.wait; have htn := hs.len
  have hsz : policy_sizes 1000 c b = some ⟨4, 2, ((b.Teams.length : Nat) : Int)⟩ := by unfold policy_sizes; rw [hpl, hsl]; rfl
  refine Ok.eq ?_
  unfold policy_step
  refine Ok.oe pIn (Ok.np (by omega) (Ok.n (by omega) (Ok.oe hsz ?_)))
  try dsimp only
  refine Ok.run2 s.Targets.length (fun i => (s.Targets, ((s.Targets.length : Nat) : Int), (i : Int), ())) rfl (by omega) (fun i hi K hK => ?_) (fun K => by dsimp only; exact Ok.n (by omega) (Ok.s rfl))
  try dsimp only
  have hx := hs.target _ (nth_mem hi)
  have h1 := hx.lo; have h2 := hx.person; have h3 := hx.sched; have h4 := hx.team
  refine Ok.p (by omega) (Ok.j (Ok.atn hi (Ok.oe pIn (Ok.p (by have := hx.kind; omega) ?_))))
  have next : Ok (K ((s.Targets, ((s.Targets.length : Nat) : Int), IntKind.wrap .i64 ((i : Int) + 1), ()), (4, 2, ((b.Teams.length : Nat) : Int), ()), ())) (· = 0) := by rw [wrap_succ (by omega)]; exact hK
  rcases hx.kind with hk | hk | hk
  · have := h2 hk
    refine Ok.p (by omega) (Ok.oe pIn (Ok.p ⟨h1, by rw [wrap_id (by omega)]; omega⟩ next))
  · have := h3 hk
    refine Ok.n (by omega) (Ok.p (by omega) (Ok.oe pIn (Ok.p ⟨h1, by rw [wrap_id (by omega)]; omega⟩ next)))
  · have := h4 hk
    refine Ok.n (by omega) (Ok.n (by omega) (Ok.p (by omega) (Ok.oe pIn (Ok.p ⟨h1, by rw [wrap_id (by omega)]; omega⟩ next))))
theorem bookE_is (h : CfgOK n c) (hn : n ≤ 48) (hb : BookOK b) : policy_Check 1000 c b = some 0 := by
  have htl := hb.tlen; have hpl := hb.plen
  refine Ok.eq ?_
  unfold policy_Check
  refine Ok.oe (check_ok h hn) (Ok.n (by simp) (Ok.j (Ok.n (by omega) (Ok.n (by omega) ?_))))
  refine Ok.run b.Teams.length (fun i => ((b.Teams, ((b.Teams.length : Nat) : Int), (i : Int), ()), c, b, ())) rfl (by omega) (fun i hi K hK => ?_) (fun K => ?_)
  · try dsimp only
    have ht := hb.team _ (nth_mem hi)
    refine Ok.p (by omega) (Ok.atn hi (Ok.oe (by rw [hb.tnm hi]; exact nameE_t i (by omega)) (Ok.nt rfl (Ok.oe (earlier_t hb hi) (Ok.f (Ok.oe (setP_is h ht) (Ok.n (by simp) ?_)))))))
    try dsimp only
    rw [wrap_succ (by omega)]; exact hK
  · try dsimp only
    refine Ok.n (by omega) (Ok.run b.Policies.length (fun i => ((((b.Policies.length : Nat) : Int), (i : Int), ()), c, b, ())) rfl (by omega) (fun i hi K hK => ?_) (fun K => by dsimp only; exact Ok.n (by omega) (Ok.s rfl)))
    try dsimp only
    have ht := hb.pol _ (nth_mem hi)
    have hml := ht.len; have hrp := ht.rep
    refine Ok.p (by omega) (Ok.oe (v := 0) ?_ (Ok.n (by simp) ?_))
    · refine Ok.eq ?_
      unfold policy_check
      refine Ok.atn hi (Ok.oe (by rw [hb.pnm hi]; exact nameE_p i (by omega)) (Ok.nt rfl (Ok.oe (earlier_p hb hi) (Ok.f (Ok.n (by omega) (Ok.n (by omega) (Ok.oe pIn (Ok.np (by omega) ?_))))))))
      refine Ok.run (nth b.Policies i).Steps.length (fun k => (((nth b.Policies i).Steps, (((nth b.Policies i).Steps.length : Nat) : Int), (k : Int), ()), c, b, ())) rfl (by omega) (fun k hk K2 hK2 => ?_) (fun K2 => by dsimp only; exact Ok.n (by omega) (Ok.s rfl))
      try dsimp only
      refine Ok.p (by omega) (Ok.atn hk (Ok.oe (stepE_is h hb (ht.step _ (nth_mem hk))) (Ok.n (by simp) ?_)))
      try dsimp only
      rw [wrap_succ (by omega)]; exact hK2
    · try dsimp only
      rw [wrap_succ (by omega)]; exact hK
theorem oin {fu : Nat} {x lo hi : Int} : oplog_in fu x lo hi = some (inV x lo hi) := by
  unfold oplog_in inV
  by_cases h1 : lo ≤ x <;> by_cases h2 : x ≤ hi <;> simp [AM.cnd, h1, h2]
theorem seenE_is {L : List Int} (h : SeenOK L 256) : oplog_seen 1000 L = some true := by
  have hl := h.len
  refine Ok.eq ?_
  unfold oplog_seen
  refine Ok.run L.length (fun i => ((L, L, ((L.length : Nat) : Int), (i : Int), ()), ())) rfl (by omega) (fun i hi k hk => ?_) (fun k => by dsimp only; exact Ok.n (by omega) (Ok.s (decide_eq_true (by omega))))
  try dsimp only
  have hx := h.fit _ (nth_mem hi)
  have hno : (L.take i).contains (nth L i) = false := by
    cases hc : (L.take i).contains (nth L i) with
    | false => rfl
    | true =>
      have := seen_bad hi hc
      rw [decide_eq_true h.nodup] at this; simp at this
  refine Ok.p (by omega) (Ok.j (Ok.atn hi (Ok.oe oin (Ok.bt (inV_is.2 hx) (Ok.natn (Ok.lec (by omega) (Ok.oe (contains_is (by simp; omega)) (Ok.bf hno ?_))))))))
  try dsimp only
  rw [wrap_succ (by omega)]; exact hk
structure DelC (p0 : List D.Call) (q : D.Call → Bool) (w j : Nat) (a : List D.Call) : Prop where
  len : a.length = p0.length
  wj : w ≤ j ∧ j ≤ p0.length
  done : a.take w = (p0.take j).filter q
  rest : ∀ k, j ≤ k → nth a k = nth p0 k
theorem filterC_all {L : List D.Call} {q : D.Call → Bool} {i : Nat} (hi : i ≤ L.length) (h : ∀ j, j < i → q (nth L j) = true) : (L.take i).filter q = L.take i := by
  refine List.filter_eq_self.2 fun x hx => ?_
  obtain ⟨k, hk, rfl⟩ := List.getElem_of_mem hx
  rw [List.length_take] at hk
  have := h k (by omega)
  simpa [nth, List.getD_eq_getElem?_getD, List.getElem?_eq_getElem (show k < L.length by omega)] using this
theorem nthC_set {L : List D.Call} {j k : Nat} {x : D.Call} (hj : j < L.length) : nth (L.set j x) k = if k = j then x else nth L k := by
  by_cases e : k = j
  · subst e; rw [if_pos rfl, nth_set_self hj]
  · rw [if_neg e, nth_set_ne e]
theorem delC_start {p0 : List D.Call} {q : D.Call → Bool} {i : Nat} (hi : i < p0.length) (h : ∀ j, j < i → q (nth p0 j) = true) (hx : q (nth p0 i) = false) : DelC p0 q i (i + 1) p0 := by
  refine ⟨rfl, by omega, ?_, fun k _ => rfl⟩
  rw [← take_snoc' hi, List.filter_append, filterC_all (by omega) h]
  simp [hx]
theorem delC_keep {p0 a : List D.Call} {q : D.Call → Bool} {w j : Nat} (h : DelC p0 q w j a) (hj : j < p0.length) (hx : q (nth a j) = true) : DelC p0 q (w + 1) (j + 1) (a.set w (nth a j)) := by
  have h1 := h.wj
  have h2 := h.len
  refine ⟨by simp [h.len], by omega, ?_, fun k hk => ?_⟩
  · rw [h.rest j (Nat.le_refl _)] at hx ⊢
    rw [← take_snoc' hj, List.filter_append, ← h.done, ← take_snoc' (l := a.set w (nth p0 j)) (by simp; omega), nthC_set (by omega), if_pos rfl, List.take_set_of_le (by omega)]
    simp [hx]
  · rw [nthC_set (by omega), if_neg (by omega)]; exact h.rest k (by omega)
theorem delC_skip {p0 a : List D.Call} {q : D.Call → Bool} {w j : Nat} (h : DelC p0 q w j a) (hj : j < p0.length) (hx : q (nth a j) = false) : DelC p0 q w (j + 1) a := by
  have h1 := h.wj
  refine ⟨h.len, by omega, ?_, fun k hk => h.rest k (by omega)⟩
  rw [h.rest j (Nat.le_refl _)] at hx
  rw [← take_snoc' hj, List.filter_append, ← h.done]
  simp [hx]
theorem pg1_is {x : D.Call} : oplog_paged_1 1000 x p = some (decide (x.Page ≠ p.ID)) := by
  unfold oplog_paged_1
  rw [sameC_p]
theorem ownE_ok {L : List D.Call} (hl : L.length ≤ 900) : Ok (slices_DeleteFunc_Call_1Foplog_paged_1_0 1000 L p) fun r => List.drop r.1 (List.take r.2.1 r.2.2) = ownC p.ID L := by
  have hown : ∀ {x : D.Call}, decide (x.Page ≠ p.ID) = !(decide (x.Page = p.ID)) := fun {x} => by by_cases e : x.Page = p.ID <;> simp [e]
  unfold slices_DeleteFunc_Call_1Foplog_paged_1_0
  have hidx : Ok (slices_IndexFunc_Call_1Foplog_paged_1_0 1000 L p) fun r => (r = -1 ∧ (∀ j, j < L.length → decide ((nth L j).Page = p.ID) = true)) ∨ ∃ i : Nat, r = (i : Int) ∧ i < L.length ∧ decide ((nth L i).Page = p.ID) = false ∧ ∀ j, j < i → decide ((nth L j).Page = p.ID) = true := by
    unfold slices_IndexFunc_Call_1Foplog_paged_1_0
    refine Ok.scan2 L.length (fun i => (((L.length : Nat) : Int), (i : Int), ())) (fun i => !decide ((nth L i).Page = p.ID)) rfl (by omega) (fun i hi hq hj k => ?_) (fun i hi hq k hk => ?_) (fun hq k => ?_)
    · refine Ok.p (by omega) (Ok.natn (Ok.lt hi (Ok.get hi (Ok.oe pg1_is ?_))))
      rw [hown]
      exact Ok.bt hq (Ok.sameC (Ok.sameC (Ok.s (.inr ⟨i, rfl, hi, by simpa using hq, fun j hj' => by simpa using hj j hj'⟩))))
    · refine Ok.p (by omega) (Ok.natn (Ok.lt hi (Ok.get hi (Ok.oe pg1_is ?_))))
      rw [hown]
      refine Ok.bf hq ?_
      try dsimp only
      rw [wrap_succ (by omega)]; exact hk
    · exact Ok.n (by omega) (Ok.sameC (Ok.sameC (Ok.s (.inl ⟨rfl, fun j hj => by simpa using hq j hj⟩))))
  refine Ok.opt hidx fun r hr => ?_
  rcases hr with ⟨rfl, hall⟩ | ⟨i, rfl, hi, hx, hj⟩
  · refine Ok.p rfl (Ok.sameC (Ok.s ?_))
    try dsimp only
    have := filterC_all (q := fun z => decide (z.Page = p.ID)) (Nat.le_refl _) hall
    rw [List.take_length] at this ⊢
    rw [List.drop_zero]
    exact this.symm
  · refine Ok.n (by omega) ?_
    try dsimp only
    rw [wrap_succ (by omega)]
    refine Ok.loop (fun q x => ∃ (w j : Nat) (a : List D.Call), x = ((((w : Nat) : Int), ((j : Nat) : Int), ()), p, a, ()) ∧ DelC L (fun z => decide (z.Page = p.ID)) w j a ∧ q = L.length - j) (m := L.length - (i + 1)) (by omega) ⟨i, i + 1, L, rfl, delC_start hi hj hx, rfl⟩ ?_
    rintro q x ⟨w, j, a, rfl, hinv, rfl⟩ K hK
    have h1 := hinv.wj
    have h2 := hinv.len
    try dsimp only
    refine Ok.ite (fun hlt => ?_) (fun hge => ?_)
    · refine Ok.j (Ok.natn (Ok.lt (by omega) (Ok.get (by omega) (Ok.oe pg1_is ?_))))
      rw [hown, Bool.not_not]
      refine Ok.cnd (fun hq => ?_) (fun hq => ?_)
      · refine Ok.natn (Ok.lt (by omega) (Ok.get (by omega) ?_))
        try dsimp only
        rw [wrap_succ (by omega), wrap_succ (by omega)]
        exact hK _ _ (by omega) ⟨w + 1, j + 1, _, rfl, delC_keep hinv (by omega) hq, rfl⟩
      · try dsimp only
        rw [wrap_succ (by omega)]
        exact hK _ _ (by omega) ⟨w, j + 1, a, rfl, delC_skip hinv (by omega) hq, rfl⟩
    · have ej : j = L.length := by omega
      have hd := hinv.done
      rw [ej, List.take_length] at hd
      refine Ok.natn (Ok.lec (by omega) (Ok.lec (by omega) (Ok.lec (by omega) (Ok.natn (Ok.lec (by simp; omega) (Ok.sameC (Ok.s ?_)))))))
      try dsimp only
      rw [List.drop_zero, List.append_assoc, List.take_append_of_le_length (by simp; omega), List.take_take, Nat.min_self]
      exact hd
theorem nth_app_at {α : Type} [Inhabited α] {A B : List α} {z : Nat} : nth (A ++ B) (A.length + z) = nth B z := by
  simp [nth, List.getD_eq_getElem?_getD, List.getElem?_append_right]
theorem callsE_is {C : List D.Call} {f : Int} (hpl : PageLen p) (hC : C.length ≤ 900) (h1 : C.map unf = callsOf p.ID 0 p.Starts) (h2 : C.Pairwise fun x y => x.Fence ≤ y.Fence) (h3 : ∀ c ∈ C, 0 ≤ c.Fence ∧ c.Fence ≤ f) : oplog_calls 1000 p C f = some true := by
  have hst := hpl.st
  have hlen : C.length = (callsOf p.ID 0 p.Starts).length := by rw [← h1, List.length_map]
  have hnth : ∀ k, k < C.length → unf (nth C k) = nth (callsOf p.ID 0 p.Starts) k := fun k hk => by
    rw [← h1]
    simp [nth, List.getD_eq_getElem?_getD, List.getElem?_eq_getElem hk]
  obtain ⟨lf, hlf⟩ : ∃ lf : Nat → Int, ∀ k, lf k = if k = 0 then 0 else (nth C (k - 1)).Fence := ⟨fun k => _, fun k => rfl⟩
  have hlow : ∀ k, k < C.length → lf k ≤ (nth C k).Fence ∧ (nth C k).Fence ≤ f := fun k hk => by
    have hf := h3 _ (nth_mem hk)
    refine ⟨?_, hf.2⟩
    rw [hlf]
    split
    · exact hf.1
    · have := List.pairwise_iff_getElem.1 h2 (k - 1) k (by omega) hk (by omega)
      simpa [nth, List.getD_eq_getElem?_getD, List.getElem?_eq_getElem hk, List.getElem?_eq_getElem (show k - 1 < C.length by omega)] using this
  refine Ok.eq ?_
  unfold oplog_calls
  refine Ok.run p.Starts.length (fun j => ((C, f, (((callsOf p.ID 0 (p.Starts.take j)).length : Nat) : Int), lf (callsOf p.ID 0 (p.Starts.take j)).length, p.Starts, ((p.Starts.length : Nat) : Int), (j : Int), ()), p, ())) (by rw [hlf]; rfl) (by omega) (fun j hj k hk => ?_) (fun k => ?_)
  · try dsimp only
    refine Ok.p (by omega) (Ok.atn hj ?_)
    have hts : p.Starts.take (j + 1) = p.Starts.take j ++ [nth p.Starts j] := (take_snoc' hj).symm
    have hsp : p.Starts = p.Starts.take j ++ (nth p.Starts j :: p.Starts.drop (j + 1)) := by rw [← drop_nth' hj, List.take_append_drop]
    have hpe := (hpl.pe _ (nth_mem hj)).1
    obtain ⟨s, hs⟩ : ∃ s, nth p.Starts j = s := ⟨_, rfl⟩
    rw [hs] at hts hsp hpe ⊢
    obtain ⟨base, hbase⟩ : ∃ base, (callsOf p.ID 0 (p.Starts.take j)).length = base := ⟨_, rfl⟩
    have hall : callsOf p.ID 0 p.Starts = callsOf p.ID 0 (p.Starts.take j) ++ (s.People.map (fun x => D.Call.mk p.ID s.K s.At x 0) ++ callsOf p.ID 0 (p.Starts.drop (j + 1))) := by
      conv => lhs; rw [hsp]
      rw [callsOf_append]
      rfl
    have hbl : base + s.People.length ≤ C.length := by rw [hlen, hall, ← hbase]; simp
    have hat : ∀ z, z < s.People.length → nth (callsOf p.ID 0 p.Starts) (base + z) = D.Call.mk p.ID s.K s.At (nth s.People z) 0 := fun z hz => by
      rw [hall, ← hbase, nth_app_at, nth_app_l (by simpa using hz)]
      simp [nth, List.getD_eq_getElem?_getD, hz]
    try dsimp only at hk
    rw [hts, callsOf_snoc, List.length_append, List.length_map, hbase] at hk
    rw [hbase]
    refine Ok.run s.People.length (fun z => ((C, f, ((base + z : Nat) : Int), lf (base + z), p.Starts, ((p.Starts.length : Nat) : Int), (j : Int), s.People, ((s.People.length : Nat) : Int), (z : Int), ()), p, s, ())) rfl (by omega) (fun z hz k2 hk2 => ?_) (fun k2 => ?_)
    · try dsimp only
      have hlt : base + z < C.length := by omega
      have hlw := hlow _ hlt
      have hun := hnth _ hlt
      rw [hat z hz] at hun
      refine Ok.p (by omega) (Ok.atn hz (Ok.j (Ok.n (by omega) (Ok.atn hlt (Ok.oe oin (Ok.bt (inV_is.2 hlw) (Ok.atn hlt (Ok.atn hlt (Ok.n ?_ ?_)))))))))
      · obtain ⟨cc, hcc⟩ : ∃ cc, nth C (base + z) = cc := ⟨_, rfl⟩
        rw [hcc] at hun ⊢
        obtain ⟨c1, c2, c3, c4, c5⟩ := cc
        simp only [unf, D.Call.mk.injEq] at hun
        obtain ⟨u1, u2, u3, u4, _⟩ := hun
        simp [u1, u2, u3, u4]
      · try dsimp only
        refine Ok.atn hlt ?_
        try dsimp only
        rw [wrap_succ (by omega), wrap_succ (by omega)]
        try dsimp only at hk2
        rw [hlf (base + (z + 1)), if_neg (by omega), show base + (z + 1) - 1 = base + z by omega] at hk2
        exact hk2
    · try dsimp only
      refine Ok.n (by omega) ?_
      try dsimp only
      rw [wrap_succ (by omega)]
      exact hk
  · try dsimp only
    rw [List.take_length]
    exact Ok.n (by omega) (Ok.s (decide_eq_true (by rw [hlen])))
theorem cloneC_is {L : List D.Call} (h : L.length ≤ 1000) : slices_Clone_Call 1000 L = some L := by unfold slices_Clone_Call; exact clone_is (by omega)
theorem ledger_checkE (h : LedgerInv M n l) (hpg : l.Pages.length ≤ 9) : oplog_Check 1000 l = some true := by
  have htop := h.top; have hnow := h.now; have how := h.owner; have hfe := h.fence; have hse := h.seen.len; have hcl := h.callsLe hpg
  refine Ok.eq ?_
  unfold oplog_Check
  refine Ok.j (Ok.oe oin (Ok.bt (inV_is.2 (by omega)) (Ok.n (by omega) (Ok.oe oin (Ok.bt (inV_is.2 how) (Ok.oe oin (Ok.bt (inV_is.2 (by omega)) (Ok.oe (seenE_is h.seen) (Ok.t ?_)))))))))
  try dsimp only
  refine Ok.oe (bookE_is h.cfg h.small h.book) (Ok.p rfl (Ok.oe (v := true) ?_ (Ok.t (Ok.s rfl))))
  refine Ok.eq ?_
  unfold oplog_paged
  have hsle : ∀ i, sumC (l.Pages.take i) (fun p => (ownC p.ID l.Calls).length) ≤ 468 * i := fun i => by
    have := sumC_le (l := l.Pages.take i) (f := fun p => (ownC p.ID l.Calls).length) (m := 468) fun p hp => by
      show (ownC p.ID l.Calls).length ≤ 468
      unfold ownC
      exact Nat.le_trans (List.length_filter_le _ _) hcl
    refine Nat.le_trans this (Nat.mul_le_mul_left _ ?_)
    simp only [List.length_take]; omega
  refine Ok.run l.Pages.length (fun i => ((((sumC (l.Pages.take i) (fun p => (ownC p.ID l.Calls).length) : Nat) : Int), l.Pages, ((l.Pages.length : Nat) : Int), (i : Int), ()), l, ())) rfl (by omega) (fun i hi k hk => ?_) (fun k => ?_)
  · try dsimp only
    have hm := nth_mem hi
    obtain ⟨g1, g2⟩ := h.page _ hm
    have gt := h.told _ hm
    have hs1 := hsle i
    refine Ok.p (by omega) (Ok.atn hi ?_)
    have hasc : 0 < i → (nth l.Pages (i - 1)).ID < (nth l.Pages i).ID := fun h0 => ascP_nth h.asc (by omega) hi
    try dsimp only at hk
    rw [← take_snoc' hi, sumC_snoc] at hk
    obtain ⟨p, hp⟩ : ∃ p, nth l.Pages i = p := ⟨_, rfl⟩
    rw [hp] at g1 g2 gt hk hasc ⊢
    have hpl := g1.plen h.book
    have hol : (ownC p.ID l.Calls).length ≤ 468 := by unfold ownC; exact Nat.le_trans (List.length_filter_le _ _) hcl
    refine Ok.join (fun y => y = ((((sumC (l.Pages.take i) (fun p => (ownC p.ID l.Calls).length) : Nat) : Int), l.Pages, ((l.Pages.length : Nat) : Int), (i : Int), ()), l, p, ())) (fun y hy => ?_) (fun J hJ => ?_)
    · subst hy
      try dsimp only
      refine Ok.oe (cloneC_is (by omega)) (Ok.opt (ownE_ok (p := p) (by omega)) fun ⟨r0, r1, r2⟩ hr => ?_)
      try dsimp only at hr ⊢
      rw [hr]
      refine Ok.oe (callsE_is hpl (by omega) gt.same gt.up gt.fit) (Ok.f ?_)
      try dsimp only
      rw [wrap_succ (by omega), wrap_id (by omega)]
      exact hk
    · have tail : Ok (optc (escalate_Check 1000 l.Book p) fun a13 => AM.cnd a13 (AM.cnd (decide (l.Now < p.Last)) (some false) (J ((((sumC (l.Pages.take i) (fun p => (ownC p.ID l.Calls).length) : Nat) : Int), l.Pages, ((l.Pages.length : Nat) : Int), (i : Int), ()), l, p, ()))) (some false)) (· = true) :=
        Ok.oe (check_is h.book hpl) (Ok.bt (g1.check h.book) (Ok.n (by omega) (hJ _ rfl)))
      by_cases h0 : 0 < i
      · refine Ok.p (by omega) ?_
        rw [show IntKind.wrap .i64 ((i : Int) - 1) = ((i - 1 : Nat) : Int) by rw [wrap_id (by omega)]; omega]
        have := hasc h0
        exact Ok.atn (by omega) (Ok.n (by omega) tail)
      · exact Ok.n (by omega) tail
  · try dsimp only
    rw [List.take_length, h.callsN]
    exact Ok.n (by omega) (Ok.s (decide_eq_true rfl))
end
end Go.Proofs.YtfhcigjkfelnfaaGreat
/-
  The law AuditLate, of what is reckoned of its code.
-/
set_option maxRecDepth 100000
set_option linter.unusedVariables false
set_option linter.unusedSimpArgs false
namespace Go.Proofs.YtfhcigjkfelnfaaGreat
open Go AM
attribute [local irreducible] dueV stepV runV checkV answerV
section
variable {n m : Nat} {c : D.Config} {b : D.Book} {p q : D.Page} {now M t : Int} {l : D.Ledger} {i : Nat} {w : D.Policy} {Q : Int → D.Start → Prop}
def offV (w : D.Policy) : Nat → Int
  | 0 => 0
  | k + 1 => offV w k + (nth w.Steps (k % w.Steps.length)).Wait
theorem wait_in (h : PolOK m w) {k : Nat} : 0 ≤ (nth w.Steps (k % w.Steps.length)).Wait ∧ (nth w.Steps (k % w.Steps.length)).Wait ≤ 900 :=
  (h.step _ (nth_mem (Nat.mod_lt _ (by have := h.len; omega)))).wait
theorem offV_le (h : PolOK m w) : ∀ k : Nat, 0 ≤ offV w k ∧ offV w k ≤ 900 * (k : Int)
  | 0 => by simp [offV]
  | k + 1 => by
    have h1 := offV_le h k
    have h2 := wait_in h (k := k)
    rw [offV]; omega
theorem offV_mono (h : PolOK m w) {i : Nat} : ∀ k : Nat, offV w i ≤ offV w (i + k)
  | 0 => Int.le_refl _
  | k + 1 => by
    have h1 := offV_mono h (i := i) k
    have h2 := wait_in h (k := i + k)
    rw [← Nat.add_assoc, offV]; omega
theorem nth_map_range {f : Nat → Int} {k m : Nat} (h : k < m) : nth ((List.range m).map f) k = f k := by
  simp [nth, List.getD_eq_getElem?_getD, h]
theorem emod_nat {k : Nat} {L : Nat} : Int.tmod (k : Int) (L : Int) = ((k % L : Nat) : Int) := by
  rw [Int.tmod_eq_emod_of_nonneg (by omega)]; rfl
theorem offsets_is (h : PolOK m w) : policy_offsets 1000 w = some ((List.range ((countV w).toNat + 1)).map (offV w)) := by
  have hc := countV_is h
  have hl := h.len
  refine Ok.eq ?_
  unfold policy_offsets
  refine Ok.oe (count_is h) ?_
  refine Ok.run (countV w).toNat (fun i => ((countV w, (i : Int), ()), w, (List.range (i + 1)).map (offV w), ())) rfl (by omega) (fun i hi k hk => ?_) (fun k => ?_)
  · dsimp only
    have hw := wait_in h (k := i)
    have ho := offV_le h i
    refine Ok.p (by omega) (Ok.natn (Ok.lt (by simp) (Ok.get (by simp) (Ok.nzc (by omega) ?_))))
    rw [emod_nat, nth_map_range (by omega)]
    refine Ok.atn (Nat.mod_lt _ (by omega)) (Ok.lec (by simp; omega) ?_)
    rw [wrap_succ (by omega), wrap_id (by omega)]
    try dsimp only at hk
    rw [List.range_succ, List.map_append] at hk
    exact hk
  · dsimp only
    refine Ok.n (by omega) ?_
    refine Ok.run w.Steps.length (fun i => ((w.Steps, ((w.Steps.length : Nat) : Int), (i : Int), ()), (List.range ((countV w).toNat + 1)).map (offV w), ())) rfl (by omega) (fun i hi k hk => ?_) (fun k => by dsimp only; exact Ok.n (by omega) (Ok.s rfl))
    dsimp only
    have hs := (h.step _ (nth_mem hi)).wait
    refine Ok.p (by omega) (Ok.atn hi (Ok.oe pIn (Ok.np (by omega) ?_)))
    rw [wrap_succ (by omega)]; exact hk
theorem offset_is (h : PolOK m w) {k : Int} (h0 : 0 ≤ k) (h1 : k ≤ countV w) : policy_Offset 1000 w k = some (offV w k.toNat, true) := by
  have hc := countV_is h
  refine Ok.eq ?_
  unfold policy_Offset
  refine Ok.oe (offsets_is h) ?_
  have hll : ((List.range ((countV w).toNat + 1)).map (offV w)).length = (countV w).toNat + 1 := by simp
  rw [hll, wrap_id (by omega)]
  refine Ok.oe pIn (Ok.np (by omega) (Ok.at h0 (by rw [hll]; omega) (Ok.s ?_)))
  rw [nth_map_range (by omega)]
theorem end_is (h : PolOK m w) : policy_End 1000 w = some (offV w (countV w).toNat) := by
  have hc := countV_is h
  refine Ok.eq ?_
  unfold policy_End
  exact Ok.oe (count_is h) (Ok.oe (offset_is h (by omega) (Int.le_refl _)) (Ok.s rfl))
theorem sum2_is {x y : Int} (hx : -100000000000 ≤ x ∧ x ≤ 100000000000) (hy : -100000000000 ≤ y ∧ y ≤ 100000000000) : bound_sum 1000 [x, y] = some (x + y) := by
  refine Ok.eq ?_
  unfold bound_sum
  refine Ok.run 2 (fun i => (((if i = 0 then 0 else if i = 1 then x else x + y), [x, y], 2, (i : Int), ()), ())) rfl (by omega) (fun i hi k hk => ?_) (fun k => by dsimp only; exact Ok.n (by omega) (Ok.s (by simp)))
  dsimp only
  refine Ok.p (by omega) (Ok.atn (by simpa using hi) ?_)
  rw [wrap_succ (by omega)]
  rcases (show i = 0 ∨ i = 1 by omega) with rfl | rfl
  · rw [if_pos rfl, show nth [x, y] 0 = x from rfl, wrap_id (by omega), Int.zero_add]
    exact hk
  · rw [if_neg (by omega), if_pos rfl, show nth [x, y] 1 = y from rfl, wrap_id (by omega)]
    exact hk
def restV (b : D.Book) (p : D.Page) : Int := offV (polOf b p) (countV (polOf b p)).toNat - offV (polOf b p) p.Next.toNat
theorem restV_in (h : PageInv Q M b p) (hb : BookOK b) : 0 ≤ restV b p ∧ restV b p ≤ 8100 := by
  have hq := h.polOK hb
  have hc := countV_is hq
  have hn := h.next
  have h0 := (h.len hb).2.1
  have h1 := offV_mono hq (i := p.Next.toNat) ((countV (polOf b p)).toNat - p.Next.toNat)
  rw [show p.Next.toNat + ((countV (polOf b p)).toNat - p.Next.toNat) = (countV (polOf b p)).toNat by omega] at h1
  have h2 := offV_le hq (countV (polOf b p)).toNat
  have h3 := offV_le hq p.Next.toNat
  unfold restV; omega
theorem rest_is (h : PageInv Q M b p) (hb : BookOK b) : bound_Rest 1000 b p = some (restV b p, true) := by
  have hq := h.polOK hb
  have hc := countV_is hq
  have hpol := h.pol
  have hn := h.next
  have h0 := (h.len hb).2.1
  have h2 := offV_le hq (countV (polOf b p)).toNat
  have h3 := offV_le hq p.Next.toNat
  refine Ok.eq ?_
  unfold bound_Rest
  refine Ok.oe (check_is hb (h.plen hb)) (Ok.nt (h.check hb) (Ok.at hpol.1 hpol.2 ?_))
  show Ok (optc (policy_Offset 1000 (polOf b p) p.Next) _) _
  refine Ok.oe (offset_is hq h0 hn) ?_
  dsimp only
  show Ok (optc (policy_End 1000 (polOf b p)) _) _
  refine Ok.oe (end_is hq) ?_
  rw [wrap_id (x := 0 - offV (polOf b p) p.Next.toNat) (by omega)]
  refine Ok.oe (sum2_is (by omega) (by omega)) (Ok.s ?_)
  unfold restV
  congr 1
  omega
theorem latest_is (h : PageInv Q M b p) (hb : BookOK b) : bound_Latest 1000 b p = some (if (dueV p).2 = true then ((dueV p).1 + restV b p, true) else (p.Last, true)) := by
  have hr := restV_in h hb
  have hd := h.due; have hu := h.until_; have ht := h.top
  refine Ok.eq ?_
  unfold bound_Latest
  refine Ok.oe (rest_is h hb) (Ok.f (Ok.oe due_is (Ok.ncnd (fun g => Ok.s ?_) (fun g => ?_))))
  · rw [if_neg (by rw [g]; simp)]
  · rw [if_pos g]
    have hb2 : 0 ≤ (dueV p).1 ∧ (dueV p).1 ≤ M := by
      rcases due_state g with e | e
      · rw [dueV_fst0 e]; exact hd
      · rw [dueV_fst2 e]; exact hu
    exact Ok.oe (sum2_is (by omega) (by omega)) (Ok.s rfl)
theorem rest_end {c : D.Config} (hb : BookOK b) (hQ : StepQ Q M c b) (h : PageInv Q M b p) (hd : (dueV p).2 = true) (ht : (dueV p).1 + restV b p ≤ t) : (runV c b p t).1.State = 3 := by
  have hs := due_state hd
  have hR := runV_ind (now := t) (R := fun q => (q.State = 0 → q.Due + restV b q ≤ t) ∧ (q.State = 2 → q.Until + restV b q ≤ t)) hb hQ (fun q hi hw hr => by
    have hdq := waitB_due hw
    have hsq := due_state hdq.1
    have hq := hi.polOK hb
    have hql := hq.len
    have hcn := countV_is hq
    have hn0 := (hi.len hb).2.1
    have hpo : polOf b (stepQ c b q) = polOf b q := step_polOf
    unfold restV
    rw [hpo]
    unfold restV at hr
    unfold stepQ
    split
    · rename_i e2
      exact ⟨fun _ => hr.2 e2, fun e => by simp at e⟩
    · rename_i e2
      have e0 : q.State = 0 := by omega
      have h0 := hr.1 e0
      split
      · exact ⟨fun e => by simp at e, fun e => by simp at e⟩
      · rename_i e5
        refine ⟨fun _ => ?_, fun e => absurd e e2⟩
        dsimp only
        have hw2 : 0 ≤ (stepAt b q).Wait ∧ (stepAt b q).Wait ≤ 900 := (hq.step _ (step_in hq hn0)).wait
        have hsw : (nth (polOf b q).Steps (q.Next.toNat % (polOf b q).Steps.length)).Wait = (stepAt b q).Wait := by
          unfold stepAt
          congr 2
          have : q.Next % ((polOf b q).Steps.length : Int) = ((q.Next.toNat % (polOf b q).Steps.length : Nat) : Int) := by
            conv => lhs; rw [show q.Next = ((q.Next.toNat : Nat) : Int) by omega]
            rfl
          rw [this]; rfl
        have ho : offV (polOf b q) (q.Next + 1).toNat = offV (polOf b q) q.Next.toNat + (stepAt b q).Wait := by
          rw [show (q.Next + 1).toNat = q.Next.toNat + 1 by omega, offV, hsw]
        rw [ho]
        split <;> omega) h ⟨fun e => by rw [dueV_fst0 e] at ht; exact ht, fun e => by rw [dueV_fst2 e] at ht; exact ht⟩
  have hg := runV_going (now := t) hb hQ h hs
  have hr := runV_inv (now := t) hb hQ h
  obtain ⟨r, hrr⟩ : ∃ r, (runV c b p t).1 = r := ⟨_, rfl⟩
  rw [hrr] at hR hg hr ⊢
  have hrest := restV_in hr.1 hb
  obtain ⟨_, _, h3⟩ := hr
  rcases hg with e | e | e
  · have := hR.1 e
    rw [waitB_0 e] at h3
    have := of_decide_eq_false h3; omega
  · have := hR.2 e
    rw [waitB_2 e] at h3
    have := of_decide_eq_false h3; omega
  · exact e
def lateB (b : D.Book) (t : Int) (p : D.Page) : Bool := (dueV p).2 && decide ((dueV p).1 + restV b p < t)
theorem find0_yes {L : List Int} {k : Int} (hl : L.length ≤ 900) : audit_findings_0 1000 L k [true] = some (L ++ [k]) := by
  refine Ok.eq ?_
  unfold audit_findings_0
  refine Ok.run 1 (fun i => ((k, [true], 1, (i : Int), ()), (if i = 0 then L else L ++ [k]), ())) rfl (by omega) (fun i hi k' hk => ?_) (fun k' => by dsimp only; exact Ok.n (by omega) (Ok.s rfl))
  obtain rfl : i = 0 := by omega
  dsimp only
  exact Ok.p (by simp) (Ok.j (Ok.atn (i := 0) (by simp) (Ok.t (Ok.lec (by simp; omega) hk))))
theorem late_ok (h : LedgerInv M n l) (hpg : l.Pages.length ≤ 9) : Ok (audit_Late 1000 l.Book l t) fun r => r.length ≤ 9 ∧ ∀ x, x ∈ r ↔ ∃ p ∈ l.Pages, p.ID = x ∧ lateB l.Book t p = true := by
  unfold audit_Late
  refine Ok.oe (ledger_checkE h hpg) (Ok.f ?_)
  refine Ok.loop (fun m x => ∃ (i : Nat) (r : List Int), x = ((t, l.Pages, ((l.Pages.length : Nat) : Int), (i : Int), ()), l.Book, r, ()) ∧ i ≤ l.Pages.length ∧ r.length ≤ i ∧ (∀ x, x ∈ r ↔ ∃ j, j < i ∧ (nth l.Pages j).ID = x ∧ lateB l.Book t (nth l.Pages j) = true) ∧ m = l.Pages.length - i) (m := l.Pages.length) (by omega)
    ⟨0, [], rfl, by omega, Nat.le_refl _, by simp, rfl⟩ ?_
  rintro m x ⟨i, r, rfl, i1, i2, i3, rfl⟩ K hK
  dsimp only
  refine Ok.ite (fun hi => ?_) (fun hi => Ok.s ⟨by (try dsimp only); omega, fun x => ?_⟩)
  · have hlt : i < l.Pages.length := by omega
    refine Ok.j (Ok.atn hlt ?_)
    obtain ⟨g1, _⟩ := h.at hlt
    have hsucc : ∀ x, (∃ j, j < i + 1 ∧ (nth l.Pages j).ID = x ∧ lateB l.Book t (nth l.Pages j) = true) ↔ (x ∈ r ∨ ((nth l.Pages i).ID = x ∧ lateB l.Book t (nth l.Pages i) = true)) := fun x => by
      rw [i3]
      constructor
      · rintro ⟨j, hj, h1, h2⟩
        by_cases e : j = i
        · subst e; exact .inr ⟨h1, h2⟩
        · exact .inl ⟨j, by omega, h1, h2⟩
      · rintro (⟨j, hj, h1, h2⟩ | ⟨h1, h2⟩)
        · exact ⟨j, by omega, h1, h2⟩
        · exact ⟨i, by omega, h1, h2⟩
    obtain ⟨p, hp⟩ : ∃ p, nth l.Pages i = p := ⟨_, rfl⟩
    rw [hp] at g1 hsucc ⊢
    have no : lateB l.Book t p = false → Ok (K ((t, l.Pages, ((l.Pages.length : Nat) : Int), IntKind.wrap .i64 ((i : Int) + 1), ()), l.Book, r, ())) fun r => r.length ≤ 9 ∧ ∀ x, x ∈ r ↔ ∃ p ∈ l.Pages, p.ID = x ∧ lateB l.Book t p = true := fun e => by
      rw [wrap_succ (by omega)]
      exact hK _ _ (by omega) ⟨i + 1, r, rfl, by omega, by omega, fun x => by rw [hsucc, e]; simp, rfl⟩
    have yes : lateB l.Book t p = true → Ok (K ((t, l.Pages, ((l.Pages.length : Nat) : Int), IntKind.wrap .i64 ((i : Int) + 1), ()), l.Book, r ++ [p.ID], ())) fun r => r.length ≤ 9 ∧ ∀ x, x ∈ r ↔ ∃ p ∈ l.Pages, p.ID = x ∧ lateB l.Book t p = true := fun e => by
      rw [wrap_succ (by omega)]
      refine hK _ _ (by omega) ⟨i + 1, _, rfl, by omega, by simp; omega, fun x => ?_, rfl⟩
      rw [hsucc, e, List.mem_append, List.mem_singleton]
      simp [eq_comm]
    refine Ok.oe (latest_is g1 h.book) ?_
    by_cases g : (dueV p).2 = true
    · rw [if_pos g]
      refine Ok.oe due_is (Ok.t (Ok.bt g (Ok.ite (fun g2 => Ok.oe (find0_yes (by omega)) (yes ?_)) (fun g2 => Ok.oe find0_no (no ?_)))))
      · unfold lateB; rw [g]; simpa using g2
      · unfold lateB; rw [g]; simp; omega
    · rw [if_neg g]
      have g' : (dueV p).2 = false := by simpa using g
      exact Ok.oe due_is (Ok.t (Ok.bf g' (Ok.oe find0_no (no (by unfold lateB; rw [g']; rfl)))))
  · rw [i3]
    constructor
    · rintro ⟨j, hj, h1, h2⟩; exact ⟨_, nth_mem (by omega), h1, h2⟩
    · rintro ⟨p, hp, h1, h2⟩
      obtain ⟨j, hj, rfl⟩ := mem_nth hp
      exact ⟨j, by omega, h1, h2⟩
theorem late_has (h : LedgerInv M n l) {r : List Int} (hr : ∀ x, x ∈ r ↔ ∃ p ∈ l.Pages, p.ID = x ∧ lateB l.Book t p = true) (hi : i < l.Pages.length) : r.contains (nth l.Pages i).ID = lateB l.Book t (nth l.Pages i) := by
  rw [Bool.eq_iff_iff, List.contains_iff_mem, hr]
  constructor
  · rintro ⟨p, hp, h1, h2⟩
    obtain ⟨j, hj, rfl⟩ := mem_nth hp
    have e1 := posV_at h.asc hi
    have e2 := posV_at h.asc hj
    rw [h1] at e2
    obtain rfl : j = i := by omega
    exact h2
  · intro h2; exact ⟨_, nth_mem hi, rfl, h2⟩
end
theorem auditLate_true (t : List Int) : law45_AuditLate 1000 t = some true := by
  refine Ok.eq ?_
  unfold law45_AuditLate
  refine Ok.oe light_is (Ok.ncnd (fun _ => Ok.oe sane45 (Ok.s rfl)) fun hl => Ok.oe roll_is ?_)
  have hL := light_len hl
  refine Ok.opt (ledger_ok (k := 8) hL dice0 (by omega)) fun ⟨l, ops, d1⟩ ⟨h1, hM⟩ => ?_
  dsimp only at h1 hM ⊢
  have h := hM.inv
  have hpg := h.small3 (k := 3) hM.ids
  have hnow := hM.now
  refine Ok.run l.Pages.length (fun i => ((l.Pages, ((l.Pages.length : Nat) : Int), (i : Int), ()), l, ())) rfl (by omega) (fun i hi k hk => ?_) (fun k => by dsimp only; exact Ok.n (by omega) (Ok.oe sane45 (Ok.s rfl)))
  dsimp only
  refine Ok.p (by omega) (Ok.j (Ok.atn hi ?_))
  obtain ⟨g1, g2⟩ := h.at hi
  have hhas := fun (t : Int) (r : List Int) hr => late_has (t := t) (r := r) h hr hi
  obtain ⟨p, hp⟩ : ∃ p, nth l.Pages i = p := ⟨_, rfl⟩
  rw [hp] at g1 g2 hhas ⊢
  have hpol := g1.pol
  have hq := g1.polOK h.book
  have hql := hq.len
  have hcn := countV_is hq
  have hnx := g1.next
  have hn0 := (g1.len h.book).2.1
  have hrest := restV_in g1 h.book
  have hd := g1.due; have hu := g1.until_
  have hdb : 0 ≤ (dueV p).1 ∧ (dueV p).1 ≤ 1000000 := by
    by_cases e : p.State = 0
    · rw [dueV_fst0 e]; exact hd
    · by_cases e2 : p.State = 2
      · rw [dueV_fst2 e2]; exact hu
      · rw [dueV_not e e2]; exact ⟨Int.le_refl _, by omega⟩
  refine Ok.oe due29_is (Ok.at hpol.1 hpol.2 ?_)
  have hoff := fun j => offV_le hq j
  have hmono := fun j => offV_mono hq (i := p.Next.toNat) j
  refine Ok.run ((countV (polOf l.Book p)).toNat - p.Next.toNat) (fun j => (((dueV p).1, (dueV p).2, offV (polOf l.Book p) (p.Next.toNat + j) - offV (polOf l.Book p) p.Next.toNat, p.Next + (j : Int), l.Pages, ((l.Pages.length : Nat) : Int), (i : Int), ()), l, p, polOf l.Book p, ())) (by simp only [Nat.add_zero, Int.sub_self]; rw [show p.Next + ((0 : Nat) : Int) = p.Next by omega]; rfl) (by omega) (fun j hj k2 hk2 => ?_) (fun k2 => ?_)
  · dsimp only
    have hw := wait_in hq (k := p.Next.toNat + j)
    have ho1 := hoff (p.Next.toNat + j)
    have ho2 := hoff p.Next.toNat
    refine Ok.oe (count25_is hq) (Ok.p (by omega) (Ok.nzc (by omega) ?_))
    rw [show p.Next + (j : Int) = ((p.Next.toNat + j : Nat) : Int) by omega, emod_nat]
    refine Ok.atn (Nat.mod_lt _ (by omega)) ?_
    rw [wrap_id (x := ((p.Next.toNat + j : Nat) : Int) + 1) (by omega), wrap_id (by omega)]
    try dsimp only at hk2
    rw [show p.Next.toNat + (j + 1) = p.Next.toNat + j + 1 by omega, offV, show p.Next + ((j + 1 : Nat) : Int) = ((p.Next.toNat + j : Nat) : Int) + 1 by omega] at hk2
    rw [show offV (polOf l.Book p) (p.Next.toNat + j) - offV (polOf l.Book p) p.Next.toNat + (nth (polOf l.Book p).Steps ((p.Next.toNat + j) % (polOf l.Book p).Steps.length)).Wait = offV (polOf l.Book p) (p.Next.toNat + j) + (nth (polOf l.Book p).Steps ((p.Next.toNat + j) % (polOf l.Book p).Steps.length)).Wait - offV (polOf l.Book p) p.Next.toNat by omega]
    exact hk2
  · dsimp only
    have hR : offV (polOf l.Book p) (p.Next.toNat + ((countV (polOf l.Book p)).toNat - p.Next.toNat)) - offV (polOf l.Book p) p.Next.toNat = restV l.Book p := by
      unfold restV
      rw [show p.Next.toNat + ((countV (polOf l.Book p)).toNat - p.Next.toNat) = (countV (polOf l.Book p)).toNat by omega]
    rw [hR]
    obtain ⟨T, hT⟩ : ∃ T, (dueV p).1 + restV l.Book p = T := ⟨_, rfl⟩
    refine Ok.oe (count25_is hq) (Ok.n (by omega) ?_)
    rw [wrap_id (x := (dueV p).1 + restV l.Book p) (by omega), hT, wrap_id (x := T + 1) (by omega)]
    have hl1 : lateB l.Book T p = false := by unfold lateB; rw [hT]; simp
    have hl2 : lateB l.Book (T + 1) p = (dueV p).2 := by unfold lateB; rw [hT, decide_eq_true (by omega), Bool.and_true]
    refine Ok.join (fun y => y = (((dueV p).1, (dueV p).2, restV l.Book p, l.Pages, ((l.Pages.length : Nat) : Int), (i : Int), ()), l, p, ())) (fun y hy => ?_) (fun J hJ => ?_)
    · subst hy
      dsimp only
      rw [wrap_id (x := (dueV p).1 + restV l.Book p) (by omega), hT]
      obtain ⟨z, z1, z2, z3, z4⟩ := runV_pair (c := l.Config) h.book QT.step g1 T
      refine Ok.oe (run29_is h.cfg h.small h.book (g1.plen h.book)) ?_
      rw [z1]
      dsimp only
      refine Ok.n (by simp) (Ok.cnd (fun g => ?_) (fun g => ?_))
      · have he := rest_end (c := l.Config) (t := T) h.book QT.step g1 g (by omega)
        rw [z1] at he
        dsimp only at he
        refine Ok.oe closed29_is (Ok.bt (by unfold closedV; simp [he]) ?_)
        try dsimp only
        rw [wrap_succ (by omega)]; exact hk
      · try dsimp only
        rw [wrap_succ (by omega)]; exact hk
    · refine Ok.opt (late_ok (t := T) h (by omega)) fun r ⟨r1, r2⟩ => Ok.oe (has25_is (by omega)) ?_
      rw [hhas T r r2, hl1]
      refine Ok.f (Ok.opt (late_ok (t := T + 1) h (by omega)) fun r' ⟨r1', r2'⟩ => Ok.oe (has25_is (by omega)) ?_)
      rw [hhas (T + 1) r' r2', hl2]
      exact Ok.cnd (fun g => Ok.bt g (hJ _ rfl)) (fun g => Ok.bf g (hJ _ rfl))
end Go.Proofs.YtfhcigjkfelnfaaGreat
