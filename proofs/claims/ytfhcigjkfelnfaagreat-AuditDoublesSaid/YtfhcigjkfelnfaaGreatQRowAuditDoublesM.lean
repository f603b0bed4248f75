/-
  Ledgers: what the reference's operations compute.
-/
import Derived.Test.YtfhcigjkfelnfaaGreatQRowAuditDoublesL
set_option maxRecDepth 100000
set_option linter.unusedVariables false
set_option linter.unusedSimpArgs false
namespace Go.Proofs.YtfhcigjkfelnfaaGreat
open Go AM
attribute [local irreducible] dueV stepV runV checkV answerV
section
variable {n : Nat} {c : D.Config} {b : D.Book} {p q : D.Page} {now M : Int} {l : D.Ledger} {i : Nat} {o : D.Op}
theorem copyL_is (hp : ∀ p ∈ l.Pages, PageLen p) (h1 : l.Pages.length ≤ 64) (h2 : l.Seen.length ≤ 1000) (h3 : l.Calls.length ≤ 100000) : r31_Copy 1000 l = some l := by
  refine Ok.eq ?_
  unfold r31_Copy
  refine Ok.run l.Pages.length (fun i => (((i : Int), ()), l, ({ Now := 0, Config := { Zones := [], People := [], Calendars := [], Schedules := [] }, Book := { Teams := [], Policies := [] }, Pages := [], Owner := 0, Fence := 0, Seen := [], Calls := [] } : D.Ledger), l.Pages.take i, ())) rfl (by omega) (fun i hi k hk => ?_) (fun k => ?_)
  · try dsimp only
    refine Ok.p (by omega) (Ok.atn hi (Ok.oe (copy29_is (hp _ (nth_mem hi))) (Ok.lec (by simp; omega) ?_)))
    try dsimp only
    rw [wrap_succ (by omega), take_snoc' hi]
    exact hk
  · try dsimp only
    rw [List.take_length]
    exact Ok.n (by omega) (Ok.lec (by omega) (Ok.lec (by omega) (Ok.s rfl)))
theorem take_set {α : Type} [Inhabited α] {L : List α} {k : Nat} {x : α} (h : k < L.length) : (L.take (k + 1)).set k x = L.take k ++ [x] := by
  rw [← take_snoc' h, List.set_append_right _ _ (by rw [List.length_take]; omega)]
  simp [Nat.min_eq_left (Nat.le_of_lt h)]
theorem ins_list {P : D.Page} {L : List D.Page} {k : Nat} (hk : k ≤ L.length) :
    (List.take (k + 1) (L ++ [P]) ++ List.take ((L ++ [P]).length - (k + 1)) (List.drop k (L ++ [P]))).set k P = L.take k ++ P :: L.drop k := by
  have hl : (L ++ [P]).length = L.length + 1 := by simp
  rw [List.set_append_left _ _ (by rw [List.length_take, hl]; omega), take_set (by rw [hl]; omega), List.take_append_of_le_length hk, List.drop_append_of_le_length hk, hl,
    show L.length + 1 - (k + 1) = (L.drop k).length by simp, List.take_left, List.append_assoc]
  rfl
theorem posV_is {id : Int} {L : List D.Page} (ha : AscP L) {k : Nat} (hk : k ≤ L.length) (h1 : ∀ j, j < k → (nth L j).ID < id) (h2 : k < L.length → id ≤ (nth L k).ID) : posV id L = k := by
  rcases Nat.lt_trichotomy (posV id L) k with h | h | h
  · have := posV_hi ha (id := id) (Nat.le_refl _) (show posV id L < L.length by omega)
    have := h1 _ h; omega
  · exact h
  · have := posV_lo (l := L) h
    have := h2 (by have := posV_le (id := id) (l := L); omega); omega
theorem open_is (h : LedgerInv M n l) (hpg : l.Pages.length ≤ 8) (ho : OpIn o) (hk : o.Kind = 1) : r31_open_0c7c10c11 1000 l o l.Now (hasV o.Page l.Pages) = some (opV l o) := by
  have hnow := h.now; have htop := h.top; have hpl := h.book.plen; have hop := ho.page
  have hsl := h.seen.len; have hcl := h.callsLe (by omega)
  refine Ok.eq ?_
  unfold r31_open_0c7c10c11 opV
  rw [if_pos hk]
  refine Ok.cnd (fun g => Ok.s ?_) (fun g => ?_)
  · rw [if_pos g]
  rw [if_neg (by rw [g]; simp)]
  refine Ok.n (by omega) ?_
  rw [if_neg (by omega)]
  refine Ok.oe (new29_is h.book) ?_
  unfold newV
  by_cases g1 : o.Page < 1
  · rw [if_pos g1, if_neg (fun hh => by have := inV_is.1 hh.1; omega)]
    exact Ok.p (by simp) (Ok.s rfl)
  rw [if_neg g1, if_pos ⟨inV_is.2 (by omega), inV_is.2 (by omega)⟩]
  by_cases g2 : 0 ≤ o.Policy ∧ o.Policy < (l.Book.Policies.length : Int)
  · rw [if_pos g2, if_pos (inV_is.2 (by omega))]
    try dsimp only
    refine Ok.n (by simp) ?_
    obtain ⟨hi1, hi2, hi3⟩ := h.open (o := o) g (by omega) g2 (by omega)
    have hple := posV_le (id := o.Page) (l := l.Pages)
    refine Ok.join (fun y => y = ((l.Now, ((posV o.Page l.Pages : Nat) : Int), ()), lgA l, ({ Now := 0, Config := { Zones := [], People := [], Calendars := [], Schedules := [] }, Book := { Teams := [], Policies := [] }, Pages := [], Owner := 0, Fence := 0, Seen := [], Calls := [] } : D.Ledger), newP o.Page o.Policy l.Now, l.Pages, l.Seen, l.Calls, ())) (fun y hy => ?_) (fun J hJ => ?_)
    · subst hy
      try dsimp only [lgA]
      obtain ⟨P, hP⟩ : ∃ P, newP o.Page o.Policy l.Now = P := ⟨_, rfl⟩
      have hPid : P.ID = o.Page := by subst hP; rfl
      rw [hP] at hi1 hi2 hi3 ⊢
      have hins : insP l.Pages P = l.Pages.take (posV o.Page l.Pages) ++ P :: l.Pages.drop (posV o.Page l.Pages) := by unfold insP; rw [hPid]
      have hle1 : (l.Pages ++ [P]).length = l.Pages.length + 1 := by simp
      try dsimp only
      rw [wrap_succ (by omega)]
      refine Ok.lec (by simp; omega) (Ok.natn (Ok.lec (by omega) (Ok.natn (Ok.lec (by omega) (Ok.ck rfl (Ok.ck rfl (Ok.lec (by omega) (Ok.lec (by omega) (Ok.natn (Ok.lt ?_ (Ok.get ?_ ?_)))))))))))
      · simp only [List.length_append, List.length_take, List.length_drop, List.length_cons, List.length_nil]; omega
      · simp only [List.length_append, List.length_take, List.length_drop, List.length_cons, List.length_nil]; omega
      rw [ins_list hple, ← hins]
      have hrun := runL_is (id := P.ID) hi1 (by show (insP l.Pages P).length ≤ 9; rw [hins]; simp; omega)
      have hpos : posV P.ID (insP l.Pages P) = posV o.Page l.Pages := by
        have := posV_at hi1.asc hi2
        rw [hi3] at this; exact this
      have hhas : hasV P.ID (insP l.Pages P) = true := by
        have := hasV_at hi1.asc hi2
        rw [hi3] at this; exact this
      rw [if_pos hhas, hpos] at hrun
      exact Ok.oe hrun (Ok.s rfl)
    · have hfound : ∀ k : Nat, k ≤ l.Pages.length → (∀ j, j < k → (nth l.Pages j).ID < o.Page) → (k < l.Pages.length → o.Page ≤ (nth l.Pages k).ID) → Ok (J ((l.Now, (k : Int), ()), lgA l, ({ Now := 0, Config := { Zones := [], People := [], Calendars := [], Schedules := [] }, Book := { Teams := [], Policies := [] }, Pages := [], Owner := 0, Fence := 0, Seen := [], Calls := [] } : D.Ledger), newP o.Page o.Policy l.Now, l.Pages, l.Seen, l.Calls, ())) _ := fun k h1 h2 h3 => hJ _ (by rw [posV_is h.asc h1 h2 h3])
      refine Ok.scan2 l.Pages.length (fun i => (l.Now, (i : Int), ())) (fun i => !decide ((nth l.Pages i).ID < o.Page)) rfl (by omega) (fun i hi hq hj k => ?_) (fun i hi hq k hk => ?_) (fun hq k => ?_)
      · refine Ok.j ?_
        dsimp only
        refine Ok.p (by omega) (Ok.natn (Ok.lt hi (Ok.get hi (Ok.n ?_ (hfound i (by omega) (fun j hj' => by simpa using hj j hj') (fun _ => by simpa using hq))))))
        have : ¬ (nth l.Pages i).ID < o.Page := by simpa using hq
        exact this
      · have hlt : (nth l.Pages i).ID < o.Page := by simpa using hq
        refine Ok.j ?_
        dsimp only
        refine Ok.p (by omega) (Ok.natn (Ok.lt hi (Ok.get hi (Ok.p hlt ?_))))
        try dsimp only
        rw [wrap_succ (by omega)]; exact hk
      · refine Ok.j ?_
        dsimp only
        exact (Ok.n (by omega) (hfound l.Pages.length (Nat.le_refl _) (fun j hj' => by simpa using hq j hj') (fun hh => absurd hh (Nat.lt_irrefl _))))
  · rw [if_neg g2, if_neg (fun hh => g2 (by have := inV_is.1 hh; omega))]
    exact Ok.p (by simp) (Ok.s rfl)
theorem answerV_zero {a : D.Answer} (h : (answerV b p a).2 = 0) : (answerV b p a).1 = p ∨ (answerV b p a).1 = answerQ p a := by
  revert h
  unfold answerV
  split
  · intro h; simp at h
  · split
    · intro h; simp at h
    · split
      · intro _; exact .inl rfl
      · split
        · rename_i hr
          intro h; exact absurd h hr
        · intro _; exact .inr rfl
theorem runI_id (h : LedgerInv M n l) (hi : i < l.Pages.length) : (nth (runI l i).Pages i).ID = (nth l.Pages i).ID := by
  rw [runI_page h hi, if_pos rfl]
  exact (runV_kept h.book QT.step (h.at hi).1).id
theorem reply_is (h : LedgerInv M n l) (hpg : l.Pages.length ≤ 9) (hk : o.Kind = 4) (ha : validV o.Answer = true) : r31_reply_0c7c10c11 1000 l o.Answer l.Now = some (opV l o) := by
  have hcl := h.callsLe hpg
  refine Ok.eq ?_
  unfold r31_reply_0c7c10c11 opV
  rw [if_neg (by omega), if_neg (by omega), if_neg (by omega), if_pos hk]
  refine Ok.oe (find0_is h.plens h.asc (by omega)) ?_
  unfold findV
  by_cases hh : hasV o.Answer.Page l.Pages = true
  · rw [if_pos hh, if_pos hh]
    try dsimp only
    have hi := hasV_is hh
    have hrun := runL_is (id := o.Answer.Page) h hpg
    rw [if_pos hh] at hrun
    refine Ok.f (Ok.oe hrun ?_)
    have h2 := h.run hi.1
    have hkp := runI_keep (l := l) (i := posV o.Answer.Page l.Pages)
    obtain ⟨i, hie⟩ : ∃ i, posV o.Answer.Page l.Pages = i := ⟨_, rfl⟩
    rw [hie] at hi h2 hkp ⊢
    have hid2 : (nth (runI l i).Pages i).ID = o.Answer.Page := (runI_id h hi.1).trans hi.2
    have hi2 : i < (runI l i).Pages.length := by omega
    have hcl2 := h2.callsLe (by omega)
    refine Ok.oe (find0_is h2.plens h2.asc (by omega)) ?_
    rw [find_at h2.asc hi2 hid2]
    try dsimp only
    obtain ⟨a, hae⟩ : ∃ a : D.Answer, a = D.Answer.mk o.Answer.ID o.Answer.Page o.Answer.Person o.Answer.Kind o.Answer.Arg l.Now := ⟨_, rfl⟩
    rw [← hae]
    have hpl2 := h2.plens _ (nth_mem hi2)
    refine Ok.oe (answer29_is h2.book hpl2) ?_
    rw [hkp.2.2.1]
    have hz := answerV_zero (b := l.Book) (p := nth (runI l i).Pages i) (a := a)
    have hAl := hpl2.answerV (a := a) h.book
    obtain ⟨A, e, hA⟩ : ∃ A e, answerV l.Book (nth (runI l i).Pages i) a = (A, e) := ⟨_, _, rfl⟩
    rw [hA] at hz hAl ⊢
    try dsimp only at hz hAl ⊢
    by_cases he : e = 0
    · rw [if_pos he]
      have hq := hz he
      have hpid : A.ID = (nth (runI l i).Pages i).ID := by
        rcases hq with rfl | rfl
        · rfl
        · exact answerQ_id.1
      have hpst : (nth (runI l i).Pages i).Starts.length ≤ A.Starts.length := by
        rcases hq with rfl | rfl
        · exact Nat.le_refl _
        · obtain ⟨m, hm⟩ := answerQ_ext (p := nth (runI l i).Pages i) (a := a)
          rw [hm]; simp
      refine Ok.n (by omega) (Ok.oe (put_is (i := i) h2.asc (by omega) (by omega) hi2 hpid hAl hpst) (Ok.s rfl))
    · rw [if_neg he]
      exact Ok.p he (Ok.s rfl)
  · rw [if_neg hh, if_neg hh]
    exact Ok.t (Ok.s rfl)
theorem edit_is {x : D.Edit} {s : Int} (h : CfgOK n c) (hn : n < 48) (hx : EditOK x) : r13_Apply 1000 c s x = some (if 0 ≤ s ∧ s < 2 then (editV c s x, 0) else ({ Zones := [], People := [], Calendars := [], Schedules := [] }, 3)) := by
  have hsl := h.slen
  refine Ok.eq ?_
  unfold r13_Apply
  refine Ok.j (Ok.oe (check8_ok h (by omega)) (Ok.n (by simp) (Ok.ite (fun g => Ok.s ?_) (fun g => Ok.ite (fun g2 => Ok.s ?_) (fun g2 => ?_)))))
  · rw [if_neg (by omega)]
  · rw [if_neg (by omega)]
  · rw [if_pos (by omega)]
    try dsimp only
    have hso := h.sched _ (nth_mem (l := c.Schedules) (i := s.toNat) (by omega))
    have hlen := hso.len
    refine Ok.at (by omega) (by omega) (Ok.lec (by omega) (Ok.lec (by simp; omega) (Ok.oe (v := editV c s x) ?_ (Ok.oe (check8_ok (editV_ok h hx (by omega)) (by omega)) (Ok.n (by simp) (Ok.s rfl))))))
    refine Ok.eq ?_
    unfold r13_with
    refine Ok.lec (by omega) (Ok.nat (by omega) (Ok.lt (by omega) (Ok.get (by omega) (Ok.s ?_))))
    rfl
theorem apply0_is (h : LedgerInv M n l) (hn : n < 48) (hpg : l.Pages.length ≤ 8) (ho : OpIn o) : r31_apply_0c7c10c11 1000 l o l.Now = some (opV l o) := by
  have hfe := h.fence; have hse := h.seen.len; have hkd := ho.kind; have hof := ho.fence
  refine Ok.eq ?_
  unfold r31_apply_0c7c10c11
  refine Ok.oe (find0_is h.plens h.asc (by omega)) ?_
  have hf2 : (findV l o.Page).2 = hasV o.Page l.Pages := by
    unfold findV
    by_cases hh : hasV o.Page l.Pages = true
    · rw [if_pos hh, hh]
    · rw [if_neg hh]; simpa using hh
  obtain ⟨fp, fo, hfe2⟩ : ∃ fp fo, findV l o.Page = (fp, fo) := ⟨_, _, rfl⟩
  rw [hfe2] at hf2 ⊢
  try dsimp only at hf2 ⊢
  subst hf2
  refine Ok.j (Ok.ite (fun k1 => ?_) (fun k1 => Ok.ite (fun k2 => ?_) (fun k2 => Ok.ite (fun k3 => ?_) (fun k3 => Ok.ite (fun k4 => ?_) (fun k4 => Ok.ite (fun k5 => ?_) (fun k5 => absurd hkd (by omega)))))))
  · exact Ok.oe (open_is h hpg ho k1) (Ok.s rfl)
  · unfold opV
    rw [if_neg k1, if_pos k2, wrap_id (by omega)]
    refine Ok.ite (fun g => Ok.s ?_) (fun g => Ok.s ?_)
    · rw [if_neg (by omega)]
    · rw [if_pos (by omega)]
  · unfold opV
    rw [if_neg k1, if_neg k2, if_pos k3]
    refine Ok.join (fun y => y = ((l.Now, hasV o.Page l.Pages, ()), lgA l, o, ({ Now := 0, Config := { Zones := [], People := [], Calendars := [], Schedules := [] }, Book := { Teams := [], Policies := [] }, Pages := [], Owner := 0, Fence := 0, Seen := [], Calls := [] } : D.Ledger), fp, l.Pages, l.Seen, l.Calls, ()) ∧ o.Region = l.Owner ∧ o.Fence = l.Fence) (fun y hy => ?_) (fun J hJ => Ok.ite (fun g => Ok.s ?_) (fun g => Ok.ite (fun g2 => Ok.s ?_) (fun g2 => hJ _ ⟨rfl, by omega, by omega⟩)))
    · obtain ⟨rfl, g1, g2⟩ := hy
      try dsimp only [lgA]
      rw [if_pos ⟨g1, g2⟩]
      refine Ok.ncnd (fun hh => Ok.s ?_) (fun hh => ?_)
      · rw [if_neg (by rw [hh]; simp)]
      · rw [if_pos hh]
        have hfp : fp = nth l.Pages (posV o.Page l.Pages) := by
          unfold findV at hfe2
          rw [if_pos hh] at hfe2
          exact (Prod.mk.inj hfe2).1.symm
        subst hfp
        have hrun := runL_is (id := o.Page) h (by omega)
        rw [if_pos hh] at hrun
        refine Ok.oe due29_is ?_
        obtain ⟨pg, hpg2⟩ : ∃ pg, nth l.Pages (posV o.Page l.Pages) = pg := ⟨_, rfl⟩
        rw [hpg2]
        obtain ⟨kk, hkk⟩ : ∃ kk : Int, (if pg.State = 2 then (-1 : Int) else pg.Next) = kk := ⟨_, rfl⟩
        rw [hkk]
        have hw : waitB pg l.Now = ((dueV pg).2 && decide ((dueV pg).1 ≤ l.Now)) := rfl
        refine Ok.join (fun y => y = ((l.Now, (dueV pg).1, (dueV pg).2, kk, ()), lgA l, o, ({ Now := 0, Config := { Zones := [], People := [], Calendars := [], Schedules := [] }, Book := { Teams := [], Policies := [] }, Pages := [], Owner := 0, Fence := 0, Seen := [], Calls := [] } : D.Ledger), l.Pages, l.Seen, l.Calls, ())) (fun y hy => ?_) (fun J hJ => Ok.ite (fun g => hJ _ (by rw [← hkk, if_pos g])) (fun g => hJ _ (by rw [← hkk, if_neg g])))
        subst hy
        try dsimp only [lgA]
        refine Ok.j (Ok.cnd (fun g3 => Ok.ite (fun g4 => Ok.s ?_) (fun g4 => Ok.ite (fun g5 => Ok.s ?_) (fun g5 => Ok.oe hrun (Ok.s ?_)))) (fun g3 => Ok.s ?_))
        · rw [if_neg (fun hx => by rw [hw, g3] at hx; have := of_decide_eq_true (show decide ((dueV pg).1 ≤ l.Now) = true by simpa using hx.1); omega)]
        · rw [if_neg (fun hx => g5 hx.2.symm)]
        · rw [if_pos ⟨by rw [hw, g3]; simp; omega, by omega⟩]
        · rw [if_neg (fun hx => by rw [hw, g3] at hx; simp at hx)]
    · rw [if_neg (by omega)]
    · rw [if_neg (by omega)]
  · exact Ok.oe (reply_is h (by omega) k4 (ho.answer k4).1) (Ok.s rfl)
  · unfold opV
    rw [if_neg k1, if_neg k2, if_neg k3, if_neg k4]
    have hkeep : ∀ i, (runAll l i).Now = l.Now ∧ (runAll l i).Config = l.Config ∧ (runAll l i).Book = l.Book ∧ (runAll l i).Owner = l.Owner ∧ (runAll l i).Fence = l.Fence ∧ (runAll l i).Seen = l.Seen ∧ (runAll l i).Pages.length = l.Pages.length := fun i => runAll_keep
    refine Ok.run l.Pages.length (fun i => ((l.Now, (i : Int), ()), lgA (runAll l i), o, ({ Now := 0, Config := { Zones := [], People := [], Calendars := [], Schedules := [] }, Book := { Teams := [], Policies := [] }, Pages := [], Owner := 0, Fence := 0, Seen := [], Calls := [] } : D.Ledger), (runAll l i).Pages, (runAll l i).Seen, (runAll l i).Calls, ())) rfl (by omega) (fun i hi k hk => ?_) (fun k => ?_)
    · try dsimp only [lgA]
      have hki := hkeep i
      have hi2 : i < (runAll l i).Pages.length := by omega
      have hL := h.runs (k := i) (by omega)
      have hrun := runL_is (id := (nth (runAll l i).Pages i).ID) hL (by omega)
      rw [if_pos (hasV_at hL.asc hi2), posV_at hL.asc hi2, hki.1] at hrun
      refine Ok.p (by omega) (Ok.natn (Ok.lt hi2 (Ok.get hi2 (Ok.oe hrun ?_))))
      try dsimp only
      rw [wrap_succ (by omega)]
      exact hk
    · try dsimp only [lgA]
      have hki := hkeep l.Pages.length
      refine Ok.n (by omega) ?_
      have hed := edit_is (c := l.Config) (s := o.Schedule) h.cfg hn (ho.edit k5)
      refine Ok.oe (v := if 0 ≤ o.Schedule ∧ o.Schedule < 2 then (editV l.Config o.Schedule o.Edit, 0) else ({ Zones := [], People := [], Calendars := [], Schedules := [] }, 3)) ?_ ?_
      · rw [← hed]
        show r13_Apply 1000 (runAll l l.Pages.length).Config _ _ = _
        rw [hki.2.1]
      · by_cases hs : 0 ≤ o.Schedule ∧ o.Schedule < 2
        · rw [if_pos hs, if_pos hs]
          exact Ok.n (by simp) (Ok.s rfl)
        · rw [if_neg hs, if_neg hs]
          exact Ok.p (by simp) (Ok.s rfl)
theorem OpIn.valid (ho : OpIn o) : r31_Valid 1000 o = some true := by
  refine Ok.eq ?_
  unfold r31_Valid
  refine Ok.oe rin (Ok.bt (inV_is.2 ho.id) (Ok.oe rin (Ok.bt (inV_is.2 ho.kind) (Ok.oe rin (Ok.bt (inV_is.2 ho.region) (Ok.oe rin (Ok.bt (inV_is.2 ho.fence) (Ok.oe rin (Ok.bt (inV_is.2 ho.at_) (Ok.oe rin (Ok.bt (inV_is.2 ho.page) (Ok.oe rin (Ok.bt (inV_is.2 ho.k) ?_)))))))))))))
  exact Ok.ite (fun g => Ok.s rfl) (fun g => Ok.oe valid28_is (Ok.bt (ho.answer (by omega)).1 (Ok.s rfl)))
theorem applyL_is (h : LedgerInv M n l) (hn : n < 48) (hpg : l.Pages.length ≤ 8) (ho : OpIn o) (ht : max l.Now o.At ≤ M - 20000) (hl : l.Seen.length < 256) : r31_Apply 1000 l o = some (applyV l o) := by
  have hcl := h.callsLe (by omega)
  refine Ok.eq ?_
  unfold r31_Apply applyV
  refine Ok.j (Ok.oe (ledger_check h (by omega)) (Ok.t (Ok.oe ho.valid (Ok.t ?_))))
  try dsimp only
  refine Ok.oe (copyL_is h.plens (by omega) (by omega) (by omega)) (Ok.oe (has25_is (by omega)) (Ok.cnd (fun g => Ok.s ?_) (fun g => ?_)))
  · rw [if_pos g]
  · rw [if_neg (by rw [g]; simp)]
    have h2 := h.see ho ht g hl
    refine Ok.n (by omega) (Ok.lec (by simp; omega) (Ok.oe (apply0_is (l := { l with Now := max l.Now o.At, Seen := l.Seen ++ [o.ID] }) h2 hn hpg ho) (Ok.s rfl)))
end
end Go.Proofs.YtfhcigjkfelnfaaGreat
/-
  Operations and ledgers that are made by dice.
-/
set_option maxRecDepth 100000
set_option linter.unusedVariables false
set_option linter.unusedSimpArgs false
namespace Go.Proofs.YtfhcigjkfelnfaaGreat
open Go AM
attribute [local irreducible] dueV stepV runV checkV answerV
section
variable {n : Nat} {c : D.Config} {b : D.Book} {p q : D.Page} {now M m : Int} {l : D.Ledger} {i : Nat} {o : D.Op} {L : List Int} {d : D.Dice}
def Ids (m : Int) (l : D.Ledger) : Prop := ∀ p ∈ l.Pages, p.ID ≤ m
theorem Ids.mono {k : Int} (h : Ids m l) (hk : m ≤ k) : Ids k l := fun p hp => Int.le_trans (h p hp) hk
theorem ids_len {L : List D.Page} (ha : AscP L) {k : Nat} (h : ∀ p ∈ L, 1 ≤ p.ID ∧ p.ID ≤ (k : Int)) : L.length ≤ k := by
  have hlo : ∀ i, i < L.length → (i : Int) + 1 ≤ (nth L i).ID := by
    intro i
    induction i with
    | zero => intro hi; have := (h _ (nth_mem hi)).1; omega
    | succ i ih =>
      intro hi
      have := ih (by omega)
      have := ascP_nth ha (show i < i + 1 by omega) hi
      omega
  rcases Nat.lt_or_ge k L.length with h1 | h1
  · have h2 := hlo (L.length - 1) (by omega)
    have h3 := (h _ (nth_mem (l := L) (i := L.length - 1) (by omega))).2
    omega
  · exact h1
theorem LedgerInv.small3 {k : Nat} (h : LedgerInv M n l) (hi : Ids (k : Int) l) : l.Pages.length ≤ k :=
  ids_len h.asc fun p hp => ⟨(h.page p hp).1.id.1, hi p hp⟩
theorem Ids.put (h : Ids m l) (hi : i < l.Pages.length) (hp : p.ID = (nth l.Pages i).ID) : Ids m (putV l i p) := fun q hq => by
  rcases List.mem_or_eq_of_mem_set hq with hq | rfl
  · exact h q hq
  · rw [hp]; exact h _ (nth_mem hi)
theorem Ids.run (h : Ids m l) (hl : LedgerInv M n l) (hi : i < l.Pages.length) : Ids m (runI l i) := by
  rw [hl.runEq hi]
  exact h.put hi (runV_kept hl.book QT.step (hl.at hi).1).id
theorem Ids.runs (h : Ids m l) (hl : LedgerInv M n l) : ∀ {k : Nat}, k ≤ l.Pages.length → Ids m (runAll l k)
  | 0, _ => h
  | k + 1, hk => by
    rw [runAll]
    exact (Ids.runs h hl (k := k) (by omega)).run (hl.runs (by omega)) (by have := (runAll_keep (l := l) (k := k)).2.2.2.2.2.2; omega)
theorem Ids.op (h : Ids m l) (hl : LedgerInv M n l) (ho : OpIn o) (hp : o.Kind = 1 → o.Page ≤ m) : Ids m (opV l o).1 := by
  unfold opV
  split
  · rename_i k1
    split
    · exact h
    · rename_i hh
      split
      · exact h
      · split
        · exact h
        · split
          · rename_i h1 h2 h3
            have hop := ho.page
            have hi := hl.open (o := o) (by simpa using hh) (by omega) h3 (by have := hl.len; omega)
            have hid : Ids m { l with Pages := insP l.Pages (newP o.Page o.Policy l.Now) } := fun q hq => by
              rcases insP_mem.1 hq with rfl | hq
              · exact hp k1
              · exact h q hq
            exact hid.run hi.1 hi.2.1
          · exact h
  · split
    · split
      · exact h
      · exact h
    · split
      · split
        · split
          · rename_i hh
            generalize (if (nth l.Pages (posV o.Page l.Pages)).State = 2 then (-1 : Int) else (nth l.Pages (posV o.Page l.Pages)).Next) = kk
            split
            · exact h.run hl (hasV_is hh).1
            · exact h
          · exact h
        · exact h
      · split
        · split
          · rename_i hh
            have hi := (hasV_is hh).1
            split
            · rename_i he
              have h2 := hl.run hi
              have hk := runI_keep (l := l) (i := posV o.Answer.Page l.Pages)
              refine (h.run hl hi).put (by omega) ?_
              rcases answerV_zero he with e | e
              · rw [e]
              · rw [e]; exact answerQ_id.1
            · exact h.run hl hi
          · exact h
        · split
          · exact h.runs hl (Nat.le_refl _)
          · exact h.runs hl (Nat.le_refl _)
theorem Ids.apply (h : Ids m l) (hl : LedgerInv M n l) (ho : OpIn o) (ht : max l.Now o.At ≤ M - 20000) (hs : l.Seen.length < 256) (hp : o.Kind = 1 → o.Page ≤ m) : Ids m (applyV l o).1 := by
  unfold applyV
  split
  · exact h
  · rename_i hse
    exact Ids.op (l := { l with Now := max l.Now o.At, Seen := l.Seen ++ [o.ID] }) h (hl.see ho ht (by simpa using hse) hs) ho hp
theorem opV_keep : (opV l o).1.Now = l.Now ∧ (opV l o).1.Seen = l.Seen := by
  unfold opV
  have h1 := fun i => runI_keep (l := l) (i := i)
  have h2 := fun k => runAll_keep (l := l) (k := k)
  split
  · split
    · exact ⟨rfl, rfl⟩
    · split
      · exact ⟨rfl, rfl⟩
      · split
        · exact ⟨rfl, rfl⟩
        · split
          · exact ⟨(runI_keep (l := { l with Pages := insP l.Pages (newP o.Page o.Policy l.Now) })).1, (runI_keep (l := { l with Pages := insP l.Pages (newP o.Page o.Policy l.Now) })).2.2.2.2.2.1⟩
          · exact ⟨rfl, rfl⟩
  · split
    · split <;> exact ⟨rfl, rfl⟩
    · split
      · split
        · split
          · generalize (if (nth l.Pages (posV o.Page l.Pages)).State = 2 then (-1 : Int) else (nth l.Pages (posV o.Page l.Pages)).Next) = kk
            split
            · exact ⟨(h1 _).1, (h1 _).2.2.2.2.2.1⟩
            · exact ⟨rfl, rfl⟩
          · exact ⟨rfl, rfl⟩
        · exact ⟨rfl, rfl⟩
      · split
        · split
          · split
            · exact ⟨(h1 _).1, (h1 _).2.2.2.2.2.1⟩
            · exact ⟨(h1 _).1, (h1 _).2.2.2.2.2.1⟩
          · exact ⟨rfl, rfl⟩
        · split
          · exact ⟨(h2 _).1, (h2 _).2.2.2.2.2.1⟩
          · exact ⟨(h2 _).1, (h2 _).2.2.2.2.2.1⟩
theorem applyV_keep : (applyV l o).1.Seen.length ≤ l.Seen.length + 1 ∧ ((applyV l o).1.Now = l.Now ∨ (applyV l o).1.Now = max l.Now o.At) := by
  unfold applyV
  split
  · exact ⟨by dsimp only; omega, .inl rfl⟩
  · have := opV_keep (l := { l with Now := max l.Now o.At, Seen := l.Seen ++ [o.ID] }) (o := o)
    exact ⟨by rw [this.2]; simp, .inr this.1⟩
theorem waiting_ok {t : Int} (h : LedgerInv M n l) (hpg : l.Pages.length ≤ 9) : Ok (r31_Waiting 1000 l t) fun w => w.length ≤ 9 ∧ ∀ s ∈ w, ∃ p ∈ l.Pages, s.K = p.ID := by
  unfold r31_Waiting
  refine Ok.j ?_
  refine Ok.loop (fun m x => ∃ (i : Nat) (w : List D.Start), x = ((t, (i : Int), ()), l, w, ()) ∧ i ≤ l.Pages.length ∧ w.length ≤ i ∧ (∀ s ∈ w, ∃ p ∈ l.Pages, s.K = p.ID) ∧ m = l.Pages.length - i) (m := l.Pages.length) (by omega) ⟨0, [], rfl, by omega, by simp, by simp, rfl⟩ ?_
  rintro m x ⟨i, w, rfl, i1, i2, i3, rfl⟩ K hK
  try dsimp only
  refine Ok.j (Ok.ite (fun hi => ?_) (fun hi => Ok.s ⟨by omega, i3⟩))
  have hlt : i < l.Pages.length := by omega
  refine Ok.oe (ledger_check h hpg) (Ok.t ?_)
  try dsimp only
  have next : ∀ w : List D.Start, w.length ≤ i + 1 → (∀ s ∈ w, ∃ p ∈ l.Pages, s.K = p.ID) → Ok (K ((t, IntKind.wrap .i64 ((i : Int) + 1), ()), l, w, ())) fun w => w.length ≤ 9 ∧ ∀ s ∈ w, ∃ p ∈ l.Pages, s.K = p.ID := fun w h1 h2 => by
    try dsimp only
    rw [wrap_succ (by omega)]
    exact hK _ _ (by omega) ⟨i + 1, w, rfl, by omega, h1, h2, rfl⟩
  refine Ok.j (Ok.atn hlt (Ok.oe due29_is (Ok.cnd (fun g => Ok.ite (fun g2 => Ok.atn hlt (Ok.lec (by simp; omega) (next _ (by simp; omega) ?_))) (fun g2 => next w (by omega) i3)) (fun g => next w (by omega) i3))))
  exact mem_snoc i3 ⟨_, nth_mem hlt, rfl⟩
theorem op_ok {id t : Int} (hL : L.length ≤ 500) (hd : DiceOK L d) (h : LedgerInv M n l) (hids : Ids 3 l) (hid : 1 ≤ id ∧ id ≤ 1000) (ht : 0 ≤ t ∧ t ≤ 8589934592) :
    Ok (made_Dice_Op 1000 d l id t) fun r => DiceOK L r.2 ∧ OpIn r.1 ∧ r.1.ID = id ∧ r.1.At = t ∧ (r.1.Kind = 1 → r.1.Page ≤ 3) := by
  have hpl := h.book.plen; have hfe := h.fence; have hse := h.seen.len; have how := h.owner
  have hpg := h.small3 (k := 3) hids
  unfold made_Dice_Op
  refine Ok.opt (nx hL hd (by omega) (by omega)) fun ⟨a0, d1⟩ ⟨h1, l1, u1⟩ => ?_
  try dsimp only at h1 l1 u1 ⊢
  refine Ok.opt (nx hL h1 (by omega) (by omega)) fun ⟨a2, d3⟩ ⟨h3, l3, u3⟩ => ?_
  try dsimp only at h3 l3 u3 ⊢
  refine Ok.opt (nx hL h3 (by omega) (by omega)) fun ⟨a4, d5⟩ ⟨h5, l5, u5⟩ => ?_
  try dsimp only at h5 l5 u5 ⊢
  rw [wrap_id (x := 1 + a0) (by omega), wrap_id (x := 1 + a4) (by omega)]
  have noEdit : ∀ {P : Prop}, ¬ (1 + a0 = 5) → 1 + a0 = 5 → P := fun h1 h2 => absurd h2 h1
  refine Ok.j (Ok.ite (fun k1 => ?_) (fun k1 => Ok.ite (fun k2 => ?_) (fun k2 => Ok.ite (fun k3 => ?_) (fun k3 => Ok.ite (fun k4 => ?_) (fun k4 => Ok.ite (fun k5 => ?_) (fun k5 => ?_))))))
  · refine Ok.opt (nx hL h5 (by omega) (by omega)) fun ⟨a10, d11⟩ ⟨h11, l11, u11⟩ => ?_
    try dsimp only at h11 l11 u11 ⊢
    rw [wrap_id (x := ((l.Book.Policies.length : Nat) : Int) + 1) (by omega), wrap_id (x := ((l.Book.Policies.length : Nat) : Int) + 1 - a10) (by omega)]
    refine Ok.opt (nx hL h11 (by omega) (by omega)) fun ⟨a12, d13⟩ ⟨h13, l13, u13⟩ => Ok.s ⟨h13, ?_, rfl, rfl, fun _ => by dsimp only; omega⟩
    exact ⟨by dsimp only; omega, by dsimp only; omega, by dsimp only; omega, by dsimp only; omega, ht, by dsimp only; omega, by dsimp only; omega, fun e => absurd (show 1 + a0 = 4 from e) (by omega), fun e => absurd (show 1 + a0 = 5 from e) (by omega)⟩
  · refine Ok.opt (one_ok hL h5 (by simp) (by simp)) fun ⟨a14, d15⟩ ⟨h15, m15⟩ => ?_
    try dsimp only at h15 m15 ⊢
    simp only [List.mem_cons, List.not_mem_nil, or_false] at m15
    try dsimp only
    rw [wrap_id (x := l.Fence + a14) (by omega)]
    refine Ok.s ⟨h15, ?_, rfl, rfl, fun e => absurd (show 1 + a0 = 1 from e) k1⟩
    exact ⟨by dsimp only; omega, by dsimp only; omega, by dsimp only; omega, by dsimp only; omega, ht, by dsimp only; omega, by dsimp only; omega, fun e => absurd (show 1 + a0 = 4 from e) (by omega), fun e => absurd (show 1 + a0 = 5 from e) (by omega)⟩
  · -- a proposed start
    have hop : ∀ o : D.Op, OpIn o → o.ID = id → o.At = t → o.Kind = 3 → ∀ d, DiceOK L d → Ok (some (o, d)) fun r => DiceOK L r.2 ∧ OpIn r.1 ∧ r.1.ID = id ∧ r.1.At = t ∧ (r.1.Kind = 1 → r.1.Page ≤ 3) := fun o h1 h2 h3 h4 d hd => Ok.s ⟨hd, h1, h2, h3, fun e => absurd (show o.Kind = 1 from e) (by omega)⟩
    refine Ok.join (fun y => ∃ (d : D.Dice) (z o : D.Op), y = ((t, 1 + a4, ()), d, l, z, o, ()) ∧ DiceOK L d ∧ OpIn o ∧ o.ID = id ∧ o.At = t ∧ o.Kind = 3) (fun y hy => ?_) (fun J hJ => ?_)
    · obtain ⟨d, z, o, rfl, j1, j2, j3, j4, j5⟩ := hy
      try dsimp only
      refine Ok.join (fun y => ∃ (d : D.Dice) (z o : D.Op), y = ((t, 1 + a4, ()), d, l, z, o, ()) ∧ DiceOK L d ∧ OpIn o ∧ o.ID = id ∧ o.At = t ∧ o.Kind = 3) (fun y hy => ?_) (fun J hJ => ?_)
      · obtain ⟨d, z, o, rfl, j1, j2, j3, j4, j5⟩ := hy
        try dsimp only
        refine Ok.join (fun y => ∃ (d : D.Dice) (z o : D.Op), y = ((), l, z, o, d, ()) ∧ DiceOK L d ∧ OpIn o ∧ o.ID = id ∧ o.At = t ∧ o.Kind = 3) (fun y hy => ?_) (fun J hJ => ?_)
        · obtain ⟨d, z, o, rfl, j1, j2, j3, j4, j5⟩ := hy
          try dsimp only
          refine Ok.oe (find_is h.plens h.asc (by omega)) ?_
          unfold findV
          by_cases hh : hasV o.Page l.Pages = true
          · rw [if_pos hh]
            try dsimp only
            have hi := hasV_is hh
            obtain ⟨g1, _⟩ := h.at hi.1
            have hnx := (checkV_facts (g1.check h.book)).next
            have hcn := countV_is (g1.polOK h.book)
            refine Ok.t (Ok.ite (fun g => Ok.s ⟨j1, ?_, j3, j4, fun e => absurd (show o.Kind = 1 from e) (by omega)⟩) (fun g => Ok.s ⟨j1, ?_, j3, j4, fun e => absurd (show o.Kind = 1 from e) (by omega)⟩))
            · exact ⟨j2.id, j2.kind, j2.region, j2.fence, j2.at_, j2.page, by dsimp only; omega, j2.answer, j2.edit⟩
            · exact ⟨j2.id, j2.kind, j2.region, j2.fence, j2.at_, j2.page, by dsimp only; omega, j2.answer, j2.edit⟩
          · rw [if_neg hh]
            exact Ok.f (hop _ j2 j3 j4 j5 _ j1)
        · refine Ok.opt (waiting_ok h (by omega)) fun w ⟨w1, w2⟩ => ?_
          refine Ok.ite (fun g => ?_) (fun g => hJ _ ⟨_, _, _, rfl, j1, ⟨j2.id, j2.kind, j2.region, j2.fence, j2.at_, by dsimp only; omega, j2.k, j2.answer, j2.edit⟩, j3, j4, j5⟩)
          refine Ok.opt (nx hL j1 (by omega) (by omega)) fun ⟨a36, d37⟩ ⟨h37, l37, u37⟩ => ?_
          try dsimp only at h37 l37 u37 ⊢
          refine Ok.at l37 u37 (hJ _ ⟨_, _, _, rfl, h37, ⟨j2.id, j2.kind, j2.region, j2.fence, j2.at_, ?_, j2.k, j2.answer, j2.edit⟩, j3, j4, j5⟩)
          obtain ⟨p, hp, e⟩ := w2 _ (nth_mem (l := w) (i := a36.toNat) (by omega))
          have := (h.page p hp).1.id
          try dsimp only
          omega
      · refine Ok.opt (nx hL j1 (by omega) (by omega)) fun ⟨a40, d41⟩ ⟨h41, _⟩ => Ok.ite (fun g => ?_) (fun g => hJ _ ⟨_, _, _, rfl, h41, j2, j3, j4, j5⟩)
        try dsimp only at h41
        refine Ok.opt (nx hL h41 (by omega) (by omega)) fun ⟨a42, d43⟩ ⟨h43, l43, u43⟩ => hJ _ ⟨_, _, _, rfl, h43, ⟨j2.id, j2.kind, j2.region, ?_, j2.at_, j2.page, j2.k, j2.answer, j2.edit⟩, j3, j4, j5⟩
        try dsimp only at l43 u43 ⊢
        omega
    · refine Ok.opt (nx hL h5 (by omega) (by omega)) fun ⟨a45, d46⟩ ⟨h46, _⟩ => Ok.ite (fun g => ?_) (fun g => ?_)
      · try dsimp only at h46
        refine Ok.opt (nx hL h46 (by omega) (by omega)) fun ⟨a47, d48⟩ ⟨h48, l48, u48⟩ => hJ _ ⟨_, _, _, rfl, h48, ?_, rfl, rfl, k3⟩
        try dsimp only at l48 u48
        exact ⟨by dsimp only; omega, by dsimp only; omega, by dsimp only; omega, by dsimp only; omega, ht, by dsimp only; omega, by dsimp only; omega, fun e => absurd (show 1 + a0 = 4 from e) (by omega), fun e => absurd (show 1 + a0 = 5 from e) (by omega)⟩
      · refine hJ _ ⟨_, _, _, rfl, h46, ?_, rfl, rfl, k3⟩
        exact ⟨by dsimp only; omega, by dsimp only; omega, by dsimp only; omega, by dsimp only; omega, ht, by dsimp only; omega, by dsimp only; omega, fun e => absurd (show 1 + a0 = 4 from e) (by omega), fun e => absurd (show 1 + a0 = 5 from e) (by omega)⟩
  · refine Ok.opt (nx hL h5 (by omega) (by omega)) fun ⟨a49, d50⟩ ⟨h50, l50, u50⟩ => ?_
    try dsimp only at h50 l50 u50 ⊢
    rw [wrap_id (x := 1 + a49) (by omega)]
    refine Ok.opt (answer_ok hL h50) fun ⟨a, d52⟩ ⟨h52, ha, e1, e2, e3⟩ => Ok.s ⟨h52, ?_, rfl, rfl, fun e => absurd (show 1 + a0 = 1 from e) k1⟩
    try dsimp only at ha e1 e2 e3
    exact ⟨by dsimp only; omega, by dsimp only; omega, by dsimp only; omega, by dsimp only; omega, ht, by dsimp only; omega, by dsimp only; omega, fun _ => ⟨ha.valid (by omega) (by omega) (by omega), fun e => (ha.arg3 e).2⟩, fun e => absurd (show 1 + a0 = 5 from e) (by omega)⟩
  · refine Ok.opt (nx hL h5 (by omega) (by omega)) fun ⟨a53, d54⟩ ⟨h54, l54, u54⟩ => ?_
    try dsimp only at h54 l54 u54 ⊢
    refine Ok.opt (override_ok hL h54) fun ⟨x, d56⟩ ⟨h56, hx⟩ => Ok.s ⟨h56, ?_, rfl, rfl, fun e => absurd (show 1 + a0 = 1 from e) k1⟩
    try dsimp only at hx
    exact ⟨by dsimp only; omega, by dsimp only; omega, by dsimp only; omega, by dsimp only; omega, ht, by dsimp only; omega, by dsimp only; omega, fun e => absurd (show 1 + a0 = 4 from e) k4, fun _ => hx⟩
  · omega
structure MadeL (k : Nat) (l : D.Ledger) : Prop where
  inv : LedgerInv 1000000 (2 + k) l
  ids : Ids 3 l
  seen : l.Seen.length ≤ k
  now : l.Now ≤ 864000 + 700 * (k : Int)
theorem new_ledger (hc : CfgOK 2 c) (hb : BookOK b) : LedgerInv 1000000 2 { Now := 0, Config := c, Book := b, Pages := [], Owner := -1, Fence := 0, Seen := [], Calls := [] } :=
  ⟨by omega, by dsimp only; omega, by omega, hc, hb, by simp, List.Pairwise.nil, by simp, by dsimp only; omega, by simp, ⟨by simp, List.nodup_nil, by simp⟩, by simp, by simp⟩
theorem newL_is (hc : CfgOK n c) (hn : n ≤ 48) (hb : BookOK b) : r31_New 1000 c b = some ({ Now := 0, Config := c, Book := b, Pages := [], Owner := -1, Fence := 0, Seen := [], Calls := [] }, 0) := by
  refine Ok.eq ?_
  unfold r31_New
  exact Ok.oe (book25_is hc hn hb) (Ok.n (by simp) (Ok.s rfl))
theorem ledger_ok {k : Nat} (hL : L.length ≤ 500) (hd : DiceOK L d) (hk : k ≤ 9) :
    Ok (made_Dice_Ledger 1000 d (k : Int)) fun r => DiceOK L r.2.2 ∧ MadeL k r.1 := by
  unfold made_Dice_Ledger
  refine Ok.opt (crew_ok hL hd (by omega)) fun ⟨c, d1⟩ ⟨h1, hc⟩ => ?_
  try dsimp only at h1 hc ⊢
  refine Ok.opt (book_ok hL h1 (by omega)) fun ⟨b, d2⟩ ⟨h2, hb⟩ => ?_
  try dsimp only at h2 hb ⊢
  refine Ok.oe (newL_is hc (by omega) hb) ?_
  try dsimp only
  refine Ok.opt (P := fun r => DiceOK L r.2.2 ∧ MadeL k r.1) ?_ fun ⟨l, ops, d⟩ hr => Ok.s hr
  unfold made_Dice_Grow
  refine Ok.loop (fun m x => x = (((k : Int), 864000, 1, 0, ()), d2, { Now := 0, Config := c, Book := b, Pages := [], Owner := -1, Fence := 0, Seen := [], Calls := [] }, (0, 0, 0, ()), ())) (m := 0) (by omega) rfl ?_
  rintro m x rfl K hK
  try dsimp only
  refine Ok.n (by simp) ?_
  try dsimp only
  rw [wrap_id (x := (k : Int) + 1) (by omega)]
  refine Ok.opt (nx hL h2 (by omega) (by omega)) fun ⟨a11, d12⟩ ⟨h12, l12, u12⟩ => ?_
  try dsimp only at h12 l12 u12 ⊢
  have hM0 : MadeL 0 { Now := 0, Config := c, Book := b, Pages := [], Owner := -1, Fence := 0, Seen := [], Calls := [] } := ⟨new_ledger hc hb, fun p hp => by simp at hp, Nat.le_refl _, by dsimp only; omega⟩
  refine Ok.loop (fun m x => ∃ (j : Nat) (t i : Int) (d : D.Dice) (l : D.Ledger) (z : Int × Int × Int × Unit) (ops : List D.Op), x = ((t, (j : Int) + 1, i, ()), d, l, z, ops, ()) ∧ DiceOK L d ∧ MadeL j l ∧ (864000 ≤ t ∧ t ≤ 864000 + 700 * (j : Int)) ∧ 0 ≤ i ∧ (j : Int) + i ≤ (k : Int) ∧ ops.length ≤ j ∧ m = i.toNat) (m := a11.toNat) (by omega)
    ⟨0, 864000, a11, d12, _, _, [], rfl, h12, hM0, by omega, l12, by omega, by simp, rfl⟩ ?_
  rintro m x ⟨j, t, i, d, l, z, ops, rfl, i1, i2, i3, i4, i5, i6, rfl⟩ K2 hK2
  obtain ⟨z1, z2, z3, ⟨⟩⟩ := z
  try dsimp only
  refine Ok.ite (fun hi => ?_) (fun hi => Ok.s ⟨i1, ?_⟩)
  · refine Ok.opt (one_ok hL i1 (by simp) (by simp)) fun ⟨a23, d24⟩ ⟨h24, m24⟩ => ?_
    try dsimp only at h24 m24 ⊢
    simp only [List.mem_cons, List.not_mem_nil, or_false] at m24
    try dsimp only
    rw [wrap_id (x := t + a23) (by omega)]
    obtain ⟨u, hu⟩ : ∃ u, t + a23 = u := ⟨_, rfl⟩
    rw [hu]
    have hnow := i2.now; have hsl := i2.seen
    refine Ok.opt (op_ok hL h24 i2.inv i2.ids (by omega) (by omega)) fun ⟨o, d26⟩ ⟨h26, ho, e1, e2, e3⟩ => ?_
    try dsimp only at h26 ho e1 e2 e3 ⊢
    have hp3 := i2.inv.small3 (k := 3) i2.ids
    have happ := applyL_is i2.inv (by omega) (by omega) ho (by omega) (by omega)
    have hinv := i2.inv.apply (by omega) ho (by omega) (by omega)
    have hids := i2.ids.apply i2.inv ho (by omega) (by omega) e3
    have hkp := applyV_keep (l := l) (o := o)
    have hp3' := hinv.small3 (k := 3) hids
    refine Ok.join (fun y => ∃ l : D.Ledger, y = ((u, (j : Int) + 2, i, ()), d26, l, (z1, z2, z3, ()), o, ops, ()) ∧ MadeL (j + 1) l) (fun y hy => ?_) (fun J hJ => ?_)
    · obtain ⟨l', rfl, hl'⟩ := hy
      try dsimp only
      rw [wrap_id (x := i - 1) (by omega)]
      refine Ok.lec (by simp; omega) (hK2 (i - 1).toNat _ (by omega) ⟨j + 1, u, i - 1, d26, l', (z1, z2, z3, ()), ops ++ [o], ?_, h26, hl', by omega, by omega, by omega, by simp; omega, rfl⟩)
      simp only [Prod.mk.injEq, and_true, true_and]
      omega
    · refine Ok.oe happ ?_
      obtain ⟨l', e, hle⟩ : ∃ l' e, applyV l o = (l', e) := ⟨_, _, rfl⟩
      rw [hle] at hinv hids hkp hp3' ⊢
      try dsimp only at hinv hids hkp hp3' ⊢
      rw [show IntKind.wrap .i64 ((j : Int) + 1 + 1) = (j : Int) + 2 by rw [wrap_id (by omega)]; omega]
      refine Ok.oe (ledger_check hinv (by omega)) (Ok.t (hJ _ ⟨l', rfl, ⟨hinv, hids, by omega, by rcases hkp.2 with e | e <;> omega⟩⟩))
  · have hj : j ≤ k := by omega
    try dsimp only
    refine ⟨?_, i2.ids, by have := i2.seen; omega, by have := i2.now; omega⟩
    have := i2.inv
    exact ⟨this.top, this.now, by omega, this.cfg.mono (by omega), this.book, this.page, this.asc, this.len, this.owner, this.fence, this.seen, this.told, this.all⟩
end
end Go.Proofs.YtfhcigjkfelnfaaGreat
/-
  What the audit of a ledger computes: calls that are doubled, pages that were not started step by step.
-/
set_option maxRecDepth 100000
set_option linter.unusedVariables false
set_option linter.unusedSimpArgs false
namespace Go.Proofs.YtfhcigjkfelnfaaGreat
open Go AM
attribute [local irreducible] dueV stepV runV checkV answerV
section
variable {n : Nat} {c : D.Config} {b : D.Book} {p q : D.Page} {now M : Int} {l : D.Ledger} {i : Nat}
def dblB (x y : D.Call) : Bool := decide (x.Page = y.Page ∧ x.K = y.K ∧ x.K ≠ -1 ∧ x.Person = y.Person)
def dblV (cs : List D.Call) : Bool := (List.range cs.length).any fun i => (List.range i).any fun k => dblB (nth cs i) (nth cs k)
theorem any_range {f : Nat → Bool} {m : Nat} : (List.range m).any f = true ↔ ∃ k, k < m ∧ f k = true := by
  simp [List.any_eq_true]
theorem doubled_is (hl : l.Calls.length ≤ 900) : audit_Doubled 1000 l = some (dblV l.Calls) := by
  refine Ok.eq ?_
  unfold audit_Doubled dblV
  refine Ok.scan2 l.Calls.length (fun i => (l.Calls, ((l.Calls.length : Nat) : Int), (i : Int), ())) (fun i => (List.range i).any fun k => dblB (nth l.Calls i) (nth l.Calls k)) rfl (by omega) (fun i hi hq _ K => ?_) (fun i hi hq K hK => ?_) (fun hq K => ?_)
  · try dsimp only
    refine Ok.p (by omega) (Ok.atn hi (Ok.natn (Ok.lec (by omega) ?_)))
    have htl : (l.Calls.take i).length = i := by simp; omega
    obtain ⟨k0, hk0, hk1⟩ := any_range.1 hq
    refine Ok.scan2 i (fun k => (l.Calls, ((l.Calls.length : Nat) : Int), (i : Int), l.Calls.take i, (((l.Calls.take i).length : Nat) : Int), (k : Int), ())) (fun k => dblB (nth l.Calls i) (nth l.Calls k)) rfl (by omega) (fun k hk hq2 _ K2 => ?_) (fun k hk hq2 K2 hK2 => ?_) (fun hq2 K2 => ?_)
    · try dsimp only
      have h := of_decide_eq_true hq2
      refine Ok.p (by omega) (Ok.j (Ok.atn (by omega) ?_))
      rw [nth_take hk]
      refine Ok.p h.1 (Ok.p h.2.1 (Ok.p h.2.2.1 (Ok.p h.2.2.2 (Ok.s ?_))))
      exact (any_range.2 ⟨i, hi, hq⟩).symm
    · try dsimp only
      have h := of_decide_eq_false hq2
      refine Ok.p (by omega) (Ok.j (Ok.atn (by omega) ?_))
      rw [nth_take hk]
      have fin : ∀ {x : Option Bool}, x = K2 ((l.Calls, ((l.Calls.length : Nat) : Int), (i : Int), l.Calls.take i, (((l.Calls.take i).length : Nat) : Int), ((k + 1 : Nat) : Int), ()), l, nth l.Calls i, ()) → Ok x (· = (List.range l.Calls.length).any fun i => (List.range i).any fun k => dblB (nth l.Calls i) (nth l.Calls k)) := fun e => by rw [e]; exact hK2
      try dsimp only
      rw [wrap_succ (by omega)]
      refine Ok.ite (fun g1 => Ok.ite (fun g2 => Ok.ite (fun g3 => Ok.n (fun g4 => h ⟨g1, g2, g3, g4⟩) ?_) (fun g3 => ?_)) (fun g2 => ?_)) (fun g1 => ?_)
      all_goals exact hK2
    · exact absurd hk1 (by rw [hq2 k0 hk0]; simp)
  · try dsimp only
    have htl : (l.Calls.take i).length = i := by simp; omega
    refine Ok.p (by omega) (Ok.atn hi (Ok.natn (Ok.lec (by omega) ?_)))
    refine Ok.run2 i (fun k => (l.Calls, ((l.Calls.length : Nat) : Int), (i : Int), l.Calls.take i, (((l.Calls.take i).length : Nat) : Int), (k : Int), ())) rfl (by omega) (fun k hk K2 hK2 => ?_) (fun K2 => ?_)
    · try dsimp only
      have hq2 : dblB (nth l.Calls i) (nth l.Calls k) = false := by
        cases hh : dblB (nth l.Calls i) (nth l.Calls k) with
        | false => rfl
        | true => have := any_range (f := fun k => dblB (nth l.Calls i) (nth l.Calls k)) |>.2 ⟨k, hk, hh⟩; rw [this] at hq; simp at hq
      have h := of_decide_eq_false hq2
      refine Ok.p (by omega) (Ok.j (Ok.atn (by omega) ?_))
      rw [nth_take hk]
      try dsimp only
      rw [wrap_succ (by omega)]
      refine Ok.ite (fun g1 => Ok.ite (fun g2 => Ok.ite (fun g3 => Ok.n (fun g4 => h ⟨g1, g2, g3, g4⟩) ?_) (fun g3 => ?_)) (fun g2 => ?_)) (fun g1 => ?_)
      all_goals exact hK2
    · try dsimp only
      refine Ok.n (by omega) ?_
      try dsimp only
      rw [wrap_succ (by omega)]
      exact hK
  · refine Ok.n (by simp) (Ok.s ?_)
    symm
    rw [Bool.eq_false_iff]
    intro hh
    obtain ⟨i, hi, h2⟩ := any_range.1 hh
    rw [hq i hi] at h2; simp at h2
def NoDbl (x y : D.Call) : Prop := ¬ (x.K = y.K ∧ x.K ≠ -1 ∧ x.Person = y.Person)
theorem callsOf_nodbl {Q : D.Start → Prop} {st k t h id f : Int} {L : List D.Start} (g : Goes Q st L k t h) : (callsOf id f L).Pairwise NoDbl ∧ ∀ x ∈ callsOf id f L, x.K < k := by
  have one : ∀ (s : D.Start), setV s.People = true → (s.People.map fun x => D.Call.mk id s.K s.At x f).Pairwise NoDbl := fun s hs => by
    rw [List.pairwise_map]
    refine List.Pairwise.imp (fun {a b} hab => ?_) (setV_is.1 hs).1
    intro hx
    have := hx.2.2
    try dsimp only at this
    omega
  induction g with
  | nil => exact ⟨by simp [callsOf], by simp [callsOf]⟩
  | step g h1 h2 h3 h4 ih =>
    rw [callsOf_snoc]
    refine ⟨List.pairwise_append.2 ⟨ih.1, one _ h3, fun x hx y hy => ?_⟩, fun x hx => ?_⟩
    · obtain ⟨z, hz, rfl⟩ := List.mem_map.1 hy
      intro hh
      have := ih.2 x hx
      have := hh.1
      try dsimp only at this
      omega
    · rcases List.mem_append.1 hx with hx | hx
      · have := ih.2 x hx; omega
      · obtain ⟨z, hz, rfl⟩ := List.mem_map.1 hx
        dsimp only; omega
  | hand g h1 h2 h3 h4 ih =>
    have hp := g.pos
    rw [callsOf_snoc]
    refine ⟨List.pairwise_append.2 ⟨ih.1, one _ (setV_one h3 h4), fun x hx y hy => ?_⟩, fun x hx => ?_⟩
    · obtain ⟨z, hz, rfl⟩ := List.mem_map.1 hy
      intro hh
      have h1 := hh.1
      have h2 := hh.2.1
      try dsimp only at h1
      omega
    · rcases List.mem_append.1 hx with hx | hx
      · exact ih.2 x hx
      · obtain ⟨z, hz, rfl⟩ := List.mem_map.1 hx
        dsimp only; omega
theorem LedgerInv.nodbl (h : LedgerInv M n l) : dblV l.Calls = false := by
  rw [Bool.eq_false_iff]
  intro hd
  obtain ⟨i, hi, hd⟩ := any_range.1 hd
  obtain ⟨k, hk, hd⟩ := any_range.1 hd
  have hd := of_decide_eq_true hd
  obtain ⟨p, hp, e⟩ := h.all _ (nth_mem hi)
  obtain ⟨g1, _⟩ := h.page p hp
  obtain ⟨t, gg, _⟩ := g1.goes
  have h1 := (callsOf_nodbl (id := p.ID) (f := 0) gg).1
  rw [← (h.told p hp).same, List.pairwise_map] at h1
  unfold ownC at h1
  rw [List.pairwise_filter] at h1
  have h2 := List.pairwise_iff_getElem.1 h1 k i (by omega) hi hk
  have e1 : l.Calls[k]'(by omega) = nth l.Calls k := by simp [nth, List.getD_eq_getElem?_getD, List.getElem?_eq_getElem (show k < l.Calls.length by omega)]
  have e2 : l.Calls[i] = nth l.Calls i := by simp [nth, List.getD_eq_getElem?_getD, List.getElem?_eq_getElem hi]
  rw [e1, e2] at h2
  refine h2 (by simp; omega) (by simp; omega) ⟨?_, ?_, ?_⟩
  · exact hd.2.1.symm
  · show (nth l.Calls k).K ≠ -1
    omega
  · exact hd.2.2.2.symm
theorem dbl_again {cs : List D.Call} {j : Nat} (hj : j < cs.length) (hk : 0 ≤ (nth cs j).K) : dblV (cs ++ [nth cs j]) = true := by
  refine any_range.2 ⟨cs.length, by simp, any_range.2 ⟨j, hj, ?_⟩⟩
  rw [nth_app_r, nth_app_l hj]
  exact decide_eq_true ⟨rfl, rfl, by omega, rfl⟩
def kAll (L : List D.Start) : Nat := (L.filter fun s => decide (s.K ≠ -1)).length
theorem kAll_succ {L : List D.Start} {i : Nat} (h : i < L.length) : kAll (L.take (i + 1)) = kAll (L.take i) + (if (nth L i).K ≠ -1 then 1 else 0) := by
  unfold kAll
  rw [← take_snoc' h, List.filter_append, List.length_append]
  by_cases g : (nth L i).K = -1
  · simp [g]
  · simp [g]
theorem audSteps_no (hb : BookOK b) (hpl : PageLen p) (hk : (kAll p.Starts : Int) ≠ p.Next) : audit_Steps 1000 b p = some false := by
  have hst := hpl.st
  refine Ok.eq ?_
  unfold audit_Steps
  refine Ok.oe (check_is hb hpl) (Ok.ncnd (fun _ => Ok.s rfl) (fun _ => ?_))
  refine Ok.loop (fun m x => ∃ (j : Nat) (t : Int), x = ((((kAll (p.Starts.take j) : Nat) : Int), t, p.Starts, ((p.Starts.length : Nat) : Int), (j : Int), ()), p, ()) ∧ j ≤ p.Starts.length ∧ m = p.Starts.length - j) (m := p.Starts.length) (by omega) ⟨0, p.Start, rfl, by omega, rfl⟩ ?_
  rintro m x ⟨j, t, rfl, jl, rfl⟩ K hK
  try dsimp only
  have hkb : kAll (p.Starts.take j) ≤ 300 := by
    unfold kAll
    have h1 := List.length_filter_le (fun s : D.Start => decide (s.K ≠ -1)) (p.Starts.take j)
    have h2 := List.length_take_le j p.Starts
    omega
  refine Ok.ite (fun hj => ?_) (fun hj => ?_)
  · have hlt : j < p.Starts.length := by omega
    refine Ok.j (Ok.atn hlt ?_)
    have hks := kAll_succ hlt
    obtain ⟨s, hs⟩ : ∃ s, nth p.Starts j = s := ⟨_, rfl⟩
    rw [hs] at hks ⊢
    refine Ok.join (fun y => y = ((((kAll (p.Starts.take j) : Nat) : Int), p.Starts, ((p.Starts.length : Nat) : Int), (j : Int), ()), p, s, ())) (fun y hy => ?_) (fun J hJ => ?_)
    · subst hy
      try dsimp only
      rw [wrap_succ (by omega)]
      refine Ok.ite (fun g => ?_) (fun g => ?_)
      · try dsimp only
        rw [wrap_succ (by omega)]
        refine hK _ _ (by omega) ⟨j + 1, s.At, ?_, by omega, rfl⟩
        rw [hks, if_pos g]
      · try dsimp only
        rw [wrap_succ (by omega)]
        refine hK _ _ (by omega) ⟨j + 1, s.At, ?_, by omega, rfl⟩
        rw [hks, if_neg g]; rfl
    · refine Ok.ite (fun g => Ok.s rfl) (fun g => Ok.ite (fun g2 => Ok.ite (fun g3 => Ok.s rfl) (fun g3 => Ok.ite (fun g4 => Ok.ite (fun g5 => Ok.s rfl) (fun g5 => hJ _ rfl)) (fun g4 => hJ _ rfl))) (fun g2 => Ok.ite (fun g4 => Ok.ite (fun g5 => Ok.s rfl) (fun g5 => hJ _ rfl)) (fun g4 => hJ _ rfl)))
  · obtain rfl : j = p.Starts.length := by omega
    refine Ok.s ?_
    rw [List.take_length]
    exact decide_eq_false hk
theorem kAll_app {a b : List D.Start} : kAll (a ++ b) = kAll a + kAll b := by unfold kAll; rw [List.filter_append, List.length_append]
theorem goes_kAll {Q : D.Start → Prop} {st k t h : Int} {L : List D.Start} (g : Goes Q st L k t h) : (kAll L : Int) = k := by
  induction g with
  | nil => rfl
  | step g h1 h2 h3 h4 ih =>
    have hp := g.pos
    rw [kAll_app]
    unfold kAll at ih ⊢
    rw [List.filter_cons_of_pos (by simp; omega)]
    simp only [List.filter_nil, List.length_cons, List.length_nil]; omega
  | hand g h1 h2 h3 h4 ih =>
    rw [kAll_app]
    unfold kAll at ih ⊢
    rw [List.filter_cons_of_neg (by simp)]
    simp only [List.filter_nil, List.length_nil]; omega
theorem kAll_out {L : List D.Start} {k : Nat} (hk : k < L.length) (h : 0 ≤ (nth L k).K) : kAll (L.take k ++ L.drop (k + 1)) + 1 = kAll L := by
  have e : L = L.take k ++ (nth L k :: L.drop (k + 1)) := by rw [← drop_nth' hk, List.take_append_drop]
  have e2 : kAll L = kAll (L.take k) + kAll (nth L k :: L.drop (k + 1)) := by rw [← kAll_app, ← e]
  rw [e2, kAll_app]
  have : kAll (nth L k :: L.drop (k + 1)) = kAll (L.drop (k + 1)) + 1 := by
    unfold kAll
    rw [List.filter_cons_of_pos (by simp; omega), List.length_cons]
  omega
end
end Go.Proofs.YtfhcigjkfelnfaaGreat
/-
  Ledgers looked at: what the program's check computes.
-/
set_option maxRecDepth 100000
set_option linter.unusedVariables false
set_option linter.unusedSimpArgs false
namespace Go.Proofs.YtfhcigjkfelnfaaGreat
open Go AM
attribute [local irreducible] dueV stepV runV checkV answerV
section
variable {n : Nat} {c : D.Config} {b : D.Book} {p q : D.Page} {now M : Int} {l : D.Ledger} {i : Nat}
end
end Go.Proofs.YtfhcigjkfelnfaaGreat
/-
  The law AuditLate, of what is reckoned of its code.
-/
set_option maxRecDepth 100000
set_option linter.unusedVariables false
set_option linter.unusedSimpArgs false
namespace Go.Proofs.YtfhcigjkfelnfaaGreat
open Go AM
attribute [local irreducible] dueV stepV runV checkV answerV
section
variable {n m : Nat} {c : D.Config} {b : D.Book} {p q : D.Page} {now M t : Int} {l : D.Ledger} {i : Nat} {w : D.Policy} {Q : Int → D.Start → Prop}
theorem find0_yes {L : List Int} {k : Int} (hl : L.length ≤ 900) : audit_findings_0 1000 L k [true] = some (L ++ [k]) := by
  refine Ok.eq ?_
  unfold audit_findings_0
  refine Ok.run 1 (fun i => ((k, [true], 1, (i : Int), ()), (if i = 0 then L else L ++ [k]), ())) rfl (by omega) (fun i hi k' hk => ?_) (fun k' => by dsimp only; exact Ok.n (by omega) (Ok.s rfl))
  obtain rfl : i = 0 := by omega
  dsimp only
  exact Ok.p (by simp) (Ok.j (Ok.atn (i := 0) (by simp) (Ok.t (Ok.lec (by simp; omega) hk))))
end
end Go.Proofs.YtfhcigjkfelnfaaGreat
/-
  The law AuditDoubles, of what is reckoned of its code.
-/
set_option maxRecDepth 100000
set_option linter.unusedVariables false
set_option linter.unusedSimpArgs false
namespace Go.Proofs.YtfhcigjkfelnfaaGreat
open Go AM
attribute [local irreducible] dueV stepV runV checkV answerV
section
variable {n : Nat} {c : D.Config} {b : D.Book} {p q : D.Page} {now M : Int} {l : D.Ledger} {i : Nat}
theorem doubled0_is (hl : l.Calls.length ≤ 900) : audit_Doubled_0c7c10c11 1000 l = some (dblV l.Calls) := by
  refine Ok.eq ?_
  unfold audit_Doubled_0c7c10c11 dblV
  refine Ok.scan2 l.Calls.length (fun i => (((l.Calls.length : Nat) : Int), (i : Int), ())) (fun i => (List.range i).any fun k => dblB (nth l.Calls i) (nth l.Calls k)) rfl (by omega) (fun i hi hq _ K => ?_) (fun i hi hq K hK => ?_) (fun hq K => ?_)
  · try dsimp only
    refine Ok.p (by omega) (Ok.natn (Ok.lt hi (Ok.get hi (Ok.natn (Ok.lec (by omega) ?_)))))
    obtain ⟨k0, hk0, hk1⟩ := any_range.1 hq
    refine Ok.scan2 i (fun k => (((l.Calls.length : Nat) : Int), (i : Int), 0, i, (((i - 0 : Nat)) : Int), (k : Int), ())) (fun k => dblB (nth l.Calls i) (nth l.Calls k)) rfl (by omega) (fun k hk hq2 _ K2 => ?_) (fun k hk hq2 K2 hK2 => ?_) (fun hq2 K2 => ?_)
    · try dsimp only
      have h := of_decide_eq_true hq2
      refine Ok.p (by omega) (Ok.j (Ok.natn (Ok.lt (by omega) ?_)))
      rw [Nat.zero_add]
      refine Ok.get (by omega) ?_
      refine Ok.p h.1 (Ok.p h.2.1 (Ok.p h.2.2.1 (Ok.p h.2.2.2 (Ok.sameC (Ok.sameC (Ok.sameC (Ok.s ?_)))))))
      exact (any_range.2 ⟨i, hi, hq⟩).symm
    · try dsimp only
      have h := of_decide_eq_false hq2
      refine Ok.p (by omega) (Ok.j (Ok.natn (Ok.lt (by omega) ?_)))
      rw [Nat.zero_add]
      refine Ok.get (by omega) ?_
      try dsimp only
      rw [wrap_succ (by omega)]
      refine Ok.ite (fun g1 => Ok.ite (fun g2 => Ok.ite (fun g3 => Ok.n (fun g4 => h ⟨g1, g2, g3, g4⟩) ?_) (fun g3 => ?_)) (fun g2 => ?_)) (fun g1 => ?_)
      all_goals exact hK2
    · exact absurd hk1 (by rw [hq2 k0 hk0]; simp)
  · try dsimp only
    refine Ok.p (by omega) (Ok.natn (Ok.lt hi (Ok.get hi (Ok.natn (Ok.lec (by omega) ?_)))))
    refine Ok.run2 i (fun k => (((l.Calls.length : Nat) : Int), (i : Int), 0, i, (((i - 0 : Nat)) : Int), (k : Int), ())) rfl (by omega) (fun k hk K2 hK2 => ?_) (fun K2 => ?_)
    · try dsimp only
      have hq2 : dblB (nth l.Calls i) (nth l.Calls k) = false := by
        cases hh : dblB (nth l.Calls i) (nth l.Calls k) with
        | false => rfl
        | true => have := any_range (f := fun k => dblB (nth l.Calls i) (nth l.Calls k)) |>.2 ⟨k, hk, hh⟩; rw [this] at hq; simp at hq
      have h := of_decide_eq_false hq2
      refine Ok.p (by omega) (Ok.j (Ok.natn (Ok.lt (by omega) ?_)))
      rw [Nat.zero_add]
      refine Ok.get (by omega) ?_
      try dsimp only
      rw [wrap_succ (by omega)]
      refine Ok.ite (fun g1 => Ok.ite (fun g2 => Ok.ite (fun g3 => Ok.n (fun g4 => h ⟨g1, g2, g3, g4⟩) ?_) (fun g3 => ?_)) (fun g2 => ?_)) (fun g1 => ?_)
      all_goals exact hK2
    · try dsimp only
      refine Ok.n (by omega) ?_
      try dsimp only
      rw [wrap_succ (by omega)]
      exact hK
  · refine Ok.n (by simp) (Ok.sameC (Ok.sameC (Ok.sameC (Ok.s ?_))))
    symm
    rw [Bool.eq_false_iff]
    intro hh
    obtain ⟨i, hi, h2⟩ := any_range.1 hh
    rw [hq i hi] at h2; simp at h2
theorem sort_nil0 {R : Type} {Q : R → Prop} {k : List Int → Option R} (h : Ok (k []) Q) : Ok (optc (slices_Sort_int_0 1000 []) k) Q :=
  Ok.opt (sort0_ok (l0 := []) (by simp)) fun r ⟨h1, _⟩ => by rw [h1.eq_nil]; exact h
theorem sort_one0 {R : Type} {z : Int} {Q : R → Prop} {k : List Int → Option R} (h : Ok (k [z]) Q) : Ok (optc (slices_Sort_int_0 1000 [z]) k) Q :=
  Ok.opt (sort0_ok (l0 := [z]) (by simp)) fun r ⟨h1, _⟩ => by rw [List.perm_singleton.1 h1]; exact h
theorem pages_is (hl : l.Pages.length ≤ 64) (h : ∀ j, j < l.Pages.length → audit_Steps 1000 l.Book (nth l.Pages j) = some true) : audit_Pages 1000 l = some [] := by
  refine Ok.eq ?_
  unfold audit_Pages
  refine Ok.run2 l.Pages.length (fun i => (l.Pages, ((l.Pages.length : Nat) : Int), (i : Int), ())) rfl (by omega) (fun j hj k hk => ?_) (fun k => ?_)
  · try dsimp only
    refine Ok.p (by omega) (Ok.atn hj (Ok.oe (h j hj) (Ok.oe find0_no ?_)))
    rw [wrap_succ (by omega)]; exact hk
  · try dsimp only
    exact Ok.n (by omega) (sort_nil0 (Ok.ck rfl (Ok.s rfl)))
theorem pages0_is (hl : l.Pages.length ≤ 64) (hi : i < l.Pages.length) (h : ∀ j, j < l.Pages.length → audit_Steps 1000 l.Book (nth l.Pages j) = some (decide (j ≠ i))) : audit_Pages_0c7c10c11 1000 l = some [(nth l.Pages i).ID] := by
  refine Ok.eq ?_
  unfold audit_Pages_0c7c10c11
  refine Ok.run l.Pages.length (fun j => ((((l.Pages.length : Nat) : Int), (j : Int), ()), (l.Now, l.Config.Zones, l.Config.People, l.Config.Calendars, l.Config.Schedules, l.Book.Teams, l.Book.Policies, l.Owner, l.Fence, ()), l.Pages, l.Seen, l.Calls, (if j ≤ i then [] else [(nth l.Pages i).ID]), ())) (by rw [if_pos (Nat.zero_le _)]; rfl) (by omega) (fun j hj k hk => ?_) (fun k => ?_)
  · try dsimp only
    refine Ok.p (by omega) (Ok.natn (Ok.lt hj (Ok.get hj (Ok.oe (h j hj) ?_))))
    rw [wrap_succ (by omega)]
    by_cases e : j = i
    · subst e
      rw [if_pos (Nat.le_refl _), decide_eq_false (by simp)]
      try dsimp only at hk
      rw [if_neg (by omega)] at hk
      exact Ok.oe (find0_yes (by simp)) hk
    · rw [decide_eq_true e]
      try dsimp only at hk
      have e2 : (j + 1 ≤ i) = (j ≤ i) := propext (by omega)
      simp only [e2] at hk
      exact Ok.oe find0_no hk
  · try dsimp only
    rw [if_neg (by omega)]
    exact Ok.n (by omega) (sort_one0 (Ok.ck rfl (Ok.sameC (Ok.sameC (Ok.sameC (Ok.s rfl))))))
def outV (p : D.Page) (k : Nat) : D.Page := { p with Starts := p.Starts.take k ++ p.Starts.drop (k + 1) }
theorem outV_len (h : PageLen p) {k : Nat} : PageLen (outV p k) := by
  have hs := h.st
  refine ⟨by simp only [outV, List.length_append, List.length_take, List.length_drop]; omega, fun s hs => h.pe s ?_, h.de, h.se, h.nx⟩
  rcases List.mem_append.1 hs with g | g
  · exact List.mem_of_mem_take g
  · exact List.mem_of_mem_drop g
theorem out_no {Q : Int → D.Start → Prop} (hb : BookOK b) (h : PageInv Q M b p) {k : Nat} (hk : k < p.Starts.length) (h0 : 0 ≤ (nth p.Starts k).K) : audit_Steps 1000 b (outV p k) = some false := by
  refine audSteps_no hb (outV_len (h.plen hb)) ?_
  obtain ⟨t, gg, _⟩ := h.goes
  have h1 := goes_kAll gg
  have h2 := kAll_out hk h0
  show (kAll (p.Starts.take k ++ p.Starts.drop (k + 1)) : Int) ≠ p.Next
  omega
end
theorem auditDoubles_true (t : List Int) : law45_AuditDoubles 1000 t = some true := by
  refine Ok.eq ?_
  unfold law45_AuditDoubles
  refine Ok.oe light_is (Ok.ncnd (fun _ => Ok.oe sane45 (Ok.s rfl)) fun hl => Ok.oe roll_is ?_)
  have hL := light_len hl
  refine Ok.opt (ledger_ok (k := 8) hL dice0 (by omega)) fun ⟨l, ops, d1⟩ ⟨h1, hM⟩ => ?_
  dsimp only at h1 hM ⊢
  have h := hM.inv
  have hpg := h.small3 (k := 3) hM.ids
  have hcl := h.callsLe (by omega)
  have hseen := h.seen.1
  have hcopy : r31_Copy 1000 l = some l := copyL_is h.plens (by omega) (by omega) (by omega)
  have hall : ∀ j, j < l.Pages.length → audit_Steps 1000 l.Book (nth l.Pages j) = some true := fun j hj => audSteps_is h.book (h.at hj).1
  refine Ok.join (fun y => y = ((), l, ())) (fun y hy => ?_) (fun J hJ => ?_)
  · subst hy
    dsimp only
    refine Ok.run2 l.Calls.length (fun i => (l.Calls, ((l.Calls.length : Nat) : Int), (i : Int), ())) rfl (by omega) (fun i hi k hk => ?_) (fun k => ?_)
    · dsimp only
      refine Ok.p (by omega) (Ok.join (fun y => y = ((l.Calls, ((l.Calls.length : Nat) : Int), (i : Int), ()), l, ())) (fun y hy => ?_) (fun J hJ => ?_))
      · subst hy
        try dsimp only
        rw [wrap_succ (by omega)]; exact hk
      · refine Ok.atn hi (Ok.ite (fun g => hJ _ rfl) (fun g => Ok.oe hcopy (Ok.lec (by simp; omega) ?_)))
        refine Ok.oe (doubled0_is (by simp; omega)) ?_
        try dsimp only
        rw [dbl_again hi (by omega)]
        exact hJ _ rfl
    · dsimp only
      refine Ok.n (by omega) ?_
      refine Ok.run2 l.Pages.length (fun i => (l.Pages, ((l.Pages.length : Nat) : Int), (i : Int), ())) rfl (by omega) (fun i hi k hk => ?_) (fun k => by dsimp only; exact Ok.n (by omega) (Ok.oe sane45 (Ok.s rfl)))
      dsimp only
      refine Ok.p (by omega) (Ok.atn hi (Ok.oe hcopy ?_))
      obtain ⟨g1, g2⟩ := h.at hi
      obtain ⟨p, hp⟩ : ∃ p, nth l.Pages i = p := ⟨_, rfl⟩
      rw [hp] at g1 g2
      have hpl := g1.plen h.book
      have hst := hpl.st
      rw [hp]
      refine Ok.loop (fun m x => ∃ (j : Nat) (P : List D.Page), x = (((i : Int), l.Pages, ((l.Pages.length : Nat) : Int), (i : Int), p.Starts, ((p.Starts.length : Nat) : Int), (j : Int), ()), l, p, (l.Now, l.Config.Zones, l.Config.People, l.Config.Calendars, l.Config.Schedules, l.Book.Teams, l.Book.Policies, l.Owner, l.Fence, ()), P, l.Seen, l.Calls, ()) ∧ j ≤ p.Starts.length ∧ (∃ S, P = l.Pages.set i { p with Starts := S }) ∧ m = p.Starts.length - j) (m := p.Starts.length) (by omega)
        ⟨0, l.Pages, rfl, by omega, ⟨p.Starts, ?_⟩, rfl⟩ ?_
      · have e := set_nth hi; rw [hp] at e; exact e.symm
      rintro m x ⟨j, P, rfl, jl, ⟨S, hS⟩, rfl⟩ K hK
      dsimp only
      have hPl : P.length = l.Pages.length := by rw [hS, List.length_set]
      refine Ok.ite (fun hj => ?_) (fun hj => ?_)
      · have hlt : j < p.Starts.length := by omega
        refine Ok.join (fun y => ∃ P', y = (((i : Int), l.Pages, ((l.Pages.length : Nat) : Int), (i : Int), p.Starts, ((p.Starts.length : Nat) : Int), (j : Int), ()), l, p, (l.Now, l.Config.Zones, l.Config.People, l.Config.Calendars, l.Config.Schedules, l.Book.Teams, l.Book.Policies, l.Owner, l.Fence, ()), P', l.Seen, l.Calls, ()) ∧ ∃ S, P' = l.Pages.set i { p with Starts := S }) (fun y hy => ?_) (fun J hJ => ?_)
        · obtain ⟨P', rfl, S', hS'⟩ := hy
          try dsimp only
          rw [wrap_succ (by omega)]
          exact hK _ _ (by omega) ⟨j + 1, P', rfl, by omega, ⟨S', hS'⟩, rfl⟩
        · refine Ok.atn hlt (Ok.ite (fun g => ?_) (fun g => hJ _ ⟨P, rfl, S, hS⟩))
          rw [wrap_succ (by omega)]
          refine Ok.natn (Ok.lec (by omega) (Ok.lec (by simp; omega) (Ok.natn (Ok.lec (by omega) (Ok.lec (by simp; omega) (Ok.natn (Ok.lt (by omega) (Ok.get (by omega) ?_))))))))
          have hat : nth P i = { p with Starts := S } := by rw [hS, nth_set_self hi]
          rw [hat]
          have hset : P.set i (outV p j) = l.Pages.set i (outV p j) := by rw [hS, List.set_set]
          have hlen : (P.set i (outV p j)).length = l.Pages.length := by rw [List.length_set, hPl]
          have hout := out_no h.book g1 hlt g
          have hpages := pages0_is (l := { l with Pages := P.set i (outV p j) }) (i := i) (by show (P.set i (outV p j)).length ≤ 64; omega) (by show i < (P.set i (outV p j)).length; omega) (fun k hk => by
            replace hk : k < l.Pages.length := by have : k < (P.set i (outV p j)).length := hk; omega
            show audit_Steps 1000 l.Book (nth (P.set i (outV p j)) k) = _
            rw [hset]
            by_cases e : k = i
            · subst e; rw [nth_set_self (by omega), decide_eq_false (by simp)]; exact hout
            · rw [nth_set_ne e, decide_eq_true e]; exact hall k hk)
          have hid : (nth (P.set i (outV p j)) i).ID = p.ID := by rw [nth_set_self (by omega)]; rfl
          rw [show (D.Ledger.Pages { l with Pages := P.set i (outV p j) }) = P.set i (outV p j) from rfl, hid] at hpages
          refine Ok.oe hpages (Ok.oe (same_is (by simp)) ?_)
          rw [decide_eq_true rfl]
          exact hJ _ ⟨_, rfl, _, hset⟩
      · try dsimp only
        rw [wrap_succ (by omega)]; exact hk
  · refine Ok.oe (doubled_is (by omega)) ?_
    rw [h.nodbl]
    exact Ok.f (Ok.oe (pages_is (by omega) hall) (Ok.n (by simp) (hJ _ rfl)))
end Go.Proofs.YtfhcigjkfelnfaaGreat
