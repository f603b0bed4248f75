/-
  Pages on their way through their policies, in plain Lean: what steps, runs and answers make of them.
-/
import Derived.Test.YtfhcigjkfelnfaaGreatQRowAuditLateG
import Derived.Test.YtfhcigjkfelnfaaGreatProg
import Derived.RangeFuncNested
import Derived.RangeFuncBound
import Derived.RangeFuncCalls
import Derived.RangeFuncLeaves
import Derived.Shelf.Abstract
import Derived.Shelf.RegionOpen
import Derived.WalkKit
import Derived.OwnWalkIn
import Derived.TacticsInMore
import Derived.LoopNIn
import Derived.LoopIn
import Derived.Scope
set_option maxRecDepth 100000
set_option linter.unusedSimpArgs false
set_option linter.unusedVariables false
namespace Go.Proofs.YtfhcigjkfelnfaaGreat
open Go AM
def bTeams : List ByteArray := [ByteArray.mk #[99, 111, 114, 101], ByteArray.mk #[119, 101, 98]]
def bPols : List ByteArray := [ByteArray.mk #[112], ByteArray.mk #[113], ByteArray.mk #[114]]
structure TeamOK (t : D.Team) : Prop where
  asc : Asc t.Members
  len : 1 ≤ t.Members.length ∧ t.Members.length ≤ 2
  mem : ∀ x ∈ t.Members, 0 ≤ x ∧ x < 4
structure TargetOK (n : Nat) (t : D.Target) : Prop where
  kind : t.Kind = 0 ∨ t.Kind = 1 ∨ t.Kind = 2
  lo : 0 ≤ t.Index
  person : t.Kind = 0 → t.Index < 4
  sched : t.Kind = 1 → t.Index < 2
  team : t.Kind = 2 → t.Index < (n : Int)
structure StepOK' (n : Nat) (s : D.PolicyStep) : Prop where
  wait : 0 ≤ s.Wait ∧ s.Wait ≤ 900
  len : s.Targets.length ≤ 2
  target : ∀ t ∈ s.Targets, TargetOK n t
structure PolOK (n : Nat) (p : D.Policy) : Prop where
  rep : 0 ≤ p.Repeat ∧ p.Repeat ≤ 2
  len : 1 ≤ p.Steps.length ∧ p.Steps.length ≤ 3
  step : ∀ s ∈ p.Steps, StepOK' n s
structure BookOK (b : D.Book) : Prop where
  tlen : b.Teams.length ≤ 2
  tname : b.Teams.map (·.Name) = bTeams.take b.Teams.length
  team : ∀ t ∈ b.Teams, TeamOK t
  plen : 1 ≤ b.Policies.length ∧ b.Policies.length ≤ 3
  pname : b.Policies.map (·.Name) = bPols.take b.Policies.length
  pol : ∀ p ∈ b.Policies, PolOK b.Teams.length p
def countV (p : D.Policy) : Int := if 0 ≤ p.Repeat ∧ p.Repeat ≤ 8 ∧ p.Steps.length ≤ 8 then (p.Steps.length : Int) * (p.Repeat + 1) else 0
theorem countV_is {n : Nat} {p : D.Policy} (h : PolOK n p) : countV p = (p.Steps.length : Int) * (p.Repeat + 1) ∧ 1 ≤ countV p ∧ countV p ≤ 9 := by
  have h1 := h.rep
  have h2 := h.len
  have e : countV p = (p.Steps.length : Int) * (p.Repeat + 1) := by unfold countV; rw [if_pos (by omega)]
  refine ⟨e, ?_⟩
  rw [e]
  have h3 : p.Repeat = 0 ∨ p.Repeat = 1 ∨ p.Repeat = 2 := by omega
  rcases h3 with h3 | h3 | h3 <;> rw [h3] <;> omega
def peopleV (c : D.Config) (b : D.Book) (l : List D.Target) (t : Int) : List Int := ([0, 1, 2, 3] : List Int).filter fun z => l.any fun x => (meantV c b x t).contains z
theorem peopleV_mem {c : D.Config} {b : D.Book} {l : List D.Target} {t z : Int} : z ∈ peopleV c b l t ↔ Means c b l t z := by
  unfold peopleV Means
  simp only [List.mem_filter, List.any_eq_true, List.contains_iff_mem, List.mem_cons, List.not_mem_nil, or_false]
  constructor
  · rintro ⟨h, x, hx⟩; exact ⟨by omega, by omega, x, hx⟩
  · rintro ⟨h1, h2, x, hx⟩; exact ⟨by omega, x, hx⟩
theorem asc4 : Asc [0, 1, 2, 3] := by unfold Asc; decide
theorem peopleV_asc {c : D.Config} {b : D.Book} {l : List D.Target} {t : Int} : Asc (peopleV c b l t) := List.Pairwise.filter _ asc4
theorem peopleV_len {c : D.Config} {b : D.Book} {l : List D.Target} {t : Int} : (peopleV c b l t).length ≤ 4 := List.length_filter_le _ _
theorem peopleV_is {c : D.Config} {b : D.Book} {l : List D.Target} {t : Int} {r : List Int} (h : Asc r) (hm : ∀ z, z ∈ r ↔ Means c b l t z) : r = peopleV c b l t :=
  asc_ext h peopleV_asc fun z => (hm z).trans peopleV_mem.symm
def callV (c : D.Config) (b : D.Book) (s : D.PolicyStep) (t : Int) : List Int := (peopleV c b s.Targets t).filter fun z => reachV c z t s.Urgent
theorem callV_asc {c : D.Config} {b : D.Book} {s : D.PolicyStep} {t : Int} : Asc (callV c b s t) := List.Pairwise.filter _ peopleV_asc
theorem callV_len {c : D.Config} {b : D.Book} {s : D.PolicyStep} {t : Int} : (callV c b s t).length ≤ 4 := Nat.le_trans (List.length_filter_le _ _) peopleV_len
theorem callV_mem {c : D.Config} {b : D.Book} {s : D.PolicyStep} {t z : Int} : z ∈ callV c b s t → 0 ≤ z ∧ z < 4 := fun h => by
  have := peopleV_mem.1 (List.mem_filter.1 h).1
  exact ⟨this.1, this.2.1⟩
def polOf (b : D.Book) (p : D.Page) : D.Policy := nth b.Policies p.Policy.toNat
def dueV (p : D.Page) : Int × Bool := if p.State = 0 then (p.Due, true) else if p.State = 2 then (p.Until, true) else (0, false)
def closedV (p : D.Page) : Bool := decide (p.State = 3) || decide (p.State = 4)
def calledV (p : D.Page) : List Int := if p.Starts = [] then [] else (nth p.Starts (p.Starts.length - 1)).People
def setF (n : Int) : Int → List Int → Bool
  | _, [] => true
  | k, x :: r => decide (0 ≤ x) && decide (x < n) && decide (k < x) && setF n x r
def setV (l : List Int) : Bool := setF 32 (-1) l
def startsF (next : Int) : Int → Int → List D.Start → Bool
  | _, _, [] => true
  | k, t, x :: r => decide (t ≤ x.At) && (decide (x.K = -1) || decide (0 ≤ x.K) && decide (k < x.K) && decide (x.K < next)) && setV x.People && startsF next (max k x.K) x.At r
def startsV (p : D.Page) : Bool := startsF p.Next (-1) p.Start p.Starts && decide (p.Starts.length ≤ 200)
def seenV (l : List Int) : Bool := decide l.Nodup && decide (l.length ≤ 64)
def waitsV (p : D.Policy) : Bool := p.Steps.all fun s => decide (0 ≤ s.Wait) && decide (s.Wait ≤ 86400)
def farV : Int := 17179869184
def inV (n lo hi : Int) : Bool := decide (lo ≤ n) && decide (n ≤ hi)
def checkV (b : D.Book) (p : D.Page) : Bool :=
  inV p.ID 1 999999 && inV p.Policy 0 ((b.Policies.length : Int) - 1) && inV p.Start 0 8589934592 && waitsV (polOf b p) && inV p.Next 0 (countV (polOf b p)) &&
  inV p.State 0 4 && inV p.By (-1) 31 && inV p.Last p.Start farV && inV p.Due 0 farV && inV p.Until 0 farV && inV p.Snoozes 0 4 && inV p.Hands 0 4 && startsV p && setV p.Declined && seenV p.Seen
def page0 : D.Page := D.Page.mk 0 0 0 0 0 0 0 0 0 0 0 [] [] []
def stepAt (b : D.Book) (p : D.Page) : D.PolicyStep := nth (polOf b p).Steps (p.Next % ((polOf b p).Steps.length : Int)).toNat
def stepQ (c : D.Config) (b : D.Book) (p : D.Page) : D.Page :=
  if p.State = 2 then { p with State := 0, Due := p.Until, Last := max p.Until p.Last }
  else if countV (polOf b p) ≤ p.Next then { p with State := 3, Last := max p.Due p.Last }
  else { p with Last := max p.Due p.Last, Starts := p.Starts ++ [⟨p.Next, p.Due, callV c b (stepAt b p) p.Due⟩], Declined := [], Next := p.Next + 1,
                Due := if callV c b (stepAt b p) p.Due = [] then p.Due else p.Due + (stepAt b p).Wait }
def stepV (c : D.Config) (b : D.Book) (p : D.Page) : D.Page × Int :=
  if checkV b p = false then (page0, 8) else if (dueV p).2 = false then (page0, 9) else if p.Starts.length = 200 then (page0, 5) else (stepQ c b p, 0)
def waitB (p : D.Page) (now : Int) : Bool := (dueV p).2 && decide ((dueV p).1 ≤ now)
def runN (c : D.Config) (b : D.Book) (now : Int) : Nat → D.Page → D.Page × Int
  | 0, p => (p, 0)
  | n + 1, p => if waitB p now = true then (if (stepV c b p).2 ≠ 0 then (page0, (stepV c b p).2) else runN c b now n (stepV c b p).1) else (p, 0)
def runV (c : D.Config) (b : D.Book) (p : D.Page) (now : Int) : D.Page × Int := if checkV b p = false then (page0, 8) else runN c b now 100 p
def validV (a : D.Answer) : Bool :=
  inV a.ID 1 999999 && inV a.Page 1 999999 && inV a.Person (-1) 31 && inV a.At 0 8589934592 && inV a.Kind 1 5 && (if a.Kind = 3 then inV a.Arg 1 86400 else if a.Kind = 4 then inV a.Arg 0 31 else decide (a.Arg = 0))
def refusedV (p : D.Page) (a : D.Answer) : Int :=
  if a.At < p.Last ∨ waitB p a.At = true then 6
  else if p.State = 4 ∨ (p.State = 3 ∧ a.Kind ≠ 5) ∨ (p.State = 1 ∧ a.Kind = 2) then 9
  else if p.Seen.length = 64 ∨ (a.Kind = 3 ∧ p.Snoozes = 4) ∨ (a.Kind = 4 ∧ (p.Hands = 4 ∨ p.Starts.length = 200)) then 5 else 0
def plusV (l : List Int) (x : Int) : List Int := l.filter (fun z => decide (z < x)) ++ x :: l.filter (fun z => decide (x < z))
def declQ (p : D.Page) (a : D.Answer) : List Int := if (calledV p).contains a.Person = true then plusV p.Declined a.Person else p.Declined
def allDown (p : D.Page) (a : D.Answer) : Bool := decide (calledV p ≠ []) && (calledV p).all fun z => (declQ p a).contains z
def answerQ (p : D.Page) (a : D.Answer) : D.Page :=
  if a.Kind = 1 then (if p.State = 1 then { p with Seen := p.Seen ++ [a.ID] } else { p with Seen := p.Seen ++ [a.ID], Last := a.At, State := 1, By := a.Person })
  else if a.Kind = 2 then { p with Seen := p.Seen ++ [a.ID], Last := a.At, Declined := declQ p a, Due := if allDown p a = true ∧ p.State = 0 then a.At else p.Due }
  else if a.Kind = 3 then { p with Seen := p.Seen ++ [a.ID], Last := a.At, State := 2, By := a.Person, Until := a.At + a.Arg, Snoozes := p.Snoozes + 1 }
  else if a.Kind = 4 then { p with Seen := p.Seen ++ [a.ID], Last := a.At, State := 0, Due := a.At + 600, Hands := p.Hands + 1, Declined := [], Starts := p.Starts ++ [⟨-1, a.At, [a.Arg]⟩] }
  else { p with Seen := p.Seen ++ [a.ID], Last := a.At, State := 4, By := a.Person }
def answerV (b : D.Book) (p : D.Page) (a : D.Answer) : D.Page × Int :=
  if checkV b p = false ∨ validV a = false then (page0, 8) else if a.Page ≠ p.ID then (page0, 3) else if p.Seen.contains a.ID = true then (p, 0)
  else if refusedV p a ≠ 0 then (page0, refusedV p a) else (answerQ p a, 0)
end Go.Proofs.YtfhcigjkfelnfaaGreat
/-
  What holds of pages on their way, in plain Lean: invariants of steps, runs and answers.
-/
set_option maxRecDepth 100000
set_option linter.unusedSimpArgs false
set_option linter.unusedVariables false
namespace Go.Proofs.YtfhcigjkfelnfaaGreat
open Go AM
inductive Goes (Q : D.Start → Prop) (st : Int) : List D.Start → Int → Int → Int → Prop
  | nil : Goes Q st [] 0 st 0
  | step {l k t h a P} : Goes Q st l k t h → t ≤ a → (l = [] → a = st) → setV P = true → Q ⟨k, a, P⟩ → Goes Q st (l ++ [⟨k, a, P⟩]) (k + 1) a h
  | hand {l k t h a x} : Goes Q st l k t h → t ≤ a → l ≠ [] → 0 ≤ x → x ≤ 31 → Goes Q st (l ++ [⟨-1, a, [x]⟩]) k a (h + 1)
section
variable {Q : D.Start → Prop} {st k t h : Int} {l : List D.Start}
theorem Goes.pos (g : Goes Q st l k t h) : 0 ≤ k ∧ 0 ≤ h ∧ (l.length : Int) = k + h ∧ st ≤ t := by
  induction g with
  | nil => simp
  | step g h1 _ _ _ ih => simp only [List.length_append, List.length_cons, List.length_nil]; omega
  | hand g h1 _ _ _ ih => simp only [List.length_append, List.length_cons, List.length_nil]; omega
def kF : Int → List D.Start → Int
  | k, [] => k
  | k, x :: r => kF (max k x.K) r
def tF : Int → List D.Start → Int
  | t, [] => t
  | t, x :: r => tF x.At r
theorem kF_snoc {x : D.Start} : ∀ {l : List D.Start} {k : Int}, kF k (l ++ [x]) = max (kF k l) x.K
  | [], _ => rfl
  | y :: l, k => kF_snoc (l := l) (k := max k y.K)
theorem tF_snoc {x : D.Start} : ∀ {l : List D.Start} {t : Int}, tF t (l ++ [x]) = x.At
  | [], _ => rfl
  | y :: l, t => tF_snoc (l := l) (t := y.At)
theorem startsF_snoc {nx : Int} {x : D.Start} : ∀ {l : List D.Start} {k t : Int}, startsF nx k t (l ++ [x]) = (startsF nx k t l &&
    (decide (tF t l ≤ x.At) && (decide (x.K = -1) || decide (0 ≤ x.K) && decide (kF k l < x.K) && decide (x.K < nx)) && setV x.People))
  | [], k, t => by
    show (_ && true) = (true && _)
    rw [Bool.and_true, Bool.true_and]; rfl
  | y :: l, k, t => by
    rw [List.cons_append, startsF, startsF_snoc (l := l), startsF, kF, tF]
    simp only [Bool.and_assoc]
theorem setV_one {x : Int} (h0 : 0 ≤ x) (h1 : x ≤ 31) : setV [x] = true := by
  unfold setV setF setF; simp; omega
theorem Goes.fit (g : Goes Q st l k t h) : kF (-1) l = k - 1 ∧ tF st l = t ∧ ∀ nx, k ≤ nx → startsF nx (-1) st l = true := by
  induction g with
  | nil => exact ⟨rfl, rfl, fun _ _ => rfl⟩
  | step g h1 h2 h3 h4 ih =>
    obtain ⟨i1, i2, i3⟩ := ih
    have hp := g.pos
    refine ⟨by rw [kF_snoc, i1]; dsimp only; omega, tF_snoc, fun nx hn => ?_⟩
    rw [startsF_snoc, i3 nx (by omega), i1, i2]
    simp only [h3, Bool.true_and, Bool.and_true, Bool.and_eq_true, Bool.or_eq_true, decide_eq_true_eq]
    omega
  | hand g h1 h2 h3 h4 ih =>
    obtain ⟨i1, i2, i3⟩ := ih
    have hp := g.pos
    refine ⟨by rw [kF_snoc, i1]; dsimp only; omega, tF_snoc, fun nx hn => ?_⟩
    rw [startsF_snoc, i3 nx hn, i1, i2, setV_one h3 h4]
    simp [h1]
end
theorem setF_is {n : Int} : ∀ {l : List Int} {k : Int}, setF n k l = true ↔ Asc l ∧ ∀ x ∈ l, 0 ≤ x ∧ x < n ∧ k < x
  | [], k => by simp [setF, Asc]
  | y :: l, k => by
    rw [setF]
    simp only [Bool.and_eq_true, decide_eq_true_eq, setF_is (l := l), Asc, List.pairwise_cons, List.mem_cons, forall_eq_or_imp]
    constructor
    · rintro ⟨⟨⟨h1, h2⟩, h3⟩, h4, h5⟩
      exact ⟨⟨fun z hz => (h5 z hz).2.2, h4⟩, ⟨h1, h2, h3⟩, fun z hz => ⟨(h5 z hz).1, (h5 z hz).2.1, by have := (h5 z hz).2.2; omega⟩⟩
    · rintro ⟨⟨h1, h2⟩, ⟨h3, h4, h5⟩, h6⟩
      exact ⟨⟨⟨h3, h4⟩, h5⟩, h2, fun z hz => ⟨(h6 z hz).1, (h6 z hz).2.1, h1 z hz⟩⟩
theorem setV_is {l : List Int} : setV l = true ↔ Asc l ∧ ∀ x ∈ l, 0 ≤ x ∧ x < 32 := by
  unfold setV; rw [setF_is]
  constructor
  · rintro ⟨h1, h2⟩; exact ⟨h1, fun x hx => ⟨(h2 x hx).1, (h2 x hx).2.1⟩⟩
  · rintro ⟨h1, h2⟩; exact ⟨h1, fun x hx => ⟨(h2 x hx).1, (h2 x hx).2, by have := h2 x hx; omega⟩⟩
theorem setV_call {c : D.Config} {b : D.Book} {s : D.PolicyStep} {t : Int} : setV (callV c b s t) = true :=
  setV_is.2 ⟨callV_asc, fun x hx => by have := callV_mem hx; omega⟩
theorem plusV_is {l : List Int} {x : Int} (h : Asc l) : Asc (plusV l x) ∧ ∀ z, z ∈ plusV l x ↔ z ∈ l ∨ z = x := by
  unfold plusV
  refine ⟨?_, fun z => ?_⟩
  · refine List.pairwise_append.2 ⟨List.Pairwise.filter _ h, List.pairwise_cons.2 ⟨fun a ha => ?_, List.Pairwise.filter _ h⟩, fun a ha b hb => ?_⟩
    · simpa using (List.mem_filter.1 ha).2
    · have h1 : a < x := by simpa using (List.mem_filter.1 ha).2
      rcases List.mem_cons.1 hb with rfl | hb
      · exact h1
      · have h2 : x < b := by simpa using (List.mem_filter.1 hb).2
        omega
  · simp only [List.mem_append, List.mem_cons, List.mem_filter, decide_eq_true_eq]
    constructor
    · rintro (⟨h1, _⟩ | h1 | ⟨h1, _⟩)
      · exact .inl h1
      · exact .inr h1
      · exact .inl h1
    · rintro (h1 | h1)
      · rcases Int.lt_trichotomy z x with h2 | h2 | h2
        · exact .inl ⟨h1, h2⟩
        · exact .inr (.inl h2)
        · exact .inr (.inr ⟨h1, h2⟩)
      · exact .inr (.inl h1)
theorem due_state {p : D.Page} (hd : (dueV p).2 = true) : p.State = 0 ∨ p.State = 2 := by
  unfold dueV at hd
  split at hd
  · exact .inl ‹_›
  · split at hd
    · exact .inr ‹_›
    · simp at hd
structure PageInv (Q : Int → D.Start → Prop) (M : Int) (b : D.Book) (p : D.Page) : Prop where
  top : M ≤ 8000000000
  id : 1 ≤ p.ID ∧ p.ID ≤ 999999
  pol : 0 ≤ p.Policy ∧ p.Policy < (b.Policies.length : Int)
  start : 0 ≤ p.Start ∧ p.Start ≤ M - 20000
  goes : ∃ t, Goes (Q p.Policy) p.Start p.Starts p.Next t p.Hands ∧ t ≤ p.Last ∧ (p.State = 0 → t ≤ p.Due) ∧ (p.State = 2 → t ≤ p.Until)
  next : p.Next ≤ countV (polOf b p)
  state : 0 ≤ p.State ∧ p.State ≤ 4
  by_ : -1 ≤ p.By ∧ p.By ≤ 31
  last : p.Last ≤ M
  due : 0 ≤ p.Due ∧ p.Due ≤ M
  until_ : 0 ≤ p.Until ∧ p.Until ≤ M
  dueO : p.State = 0 → p.Due + 900 * (countV (polOf b p) - p.Next) ≤ M
  untilS : p.State = 2 → p.Until + 900 * (countV (polOf b p) - p.Next) ≤ M
  snoozes : 0 ≤ p.Snoozes ∧ p.Snoozes ≤ 4
  hands : p.Hands ≤ 4
  first : p.Starts = [] → p.State = 0 ∧ p.Due = p.Start
  ended : p.State = 3 → p.Next = countV (polOf b p)
  declined : setV p.Declined = true
  seen : seenV p.Seen = true
section
variable {Q : Int → D.Start → Prop} {M : Int} {b : D.Book} {p : D.Page}
theorem PageInv.polOK (h : PageInv Q M b p) (hb : BookOK b) : PolOK b.Teams.length (polOf b p) := hb.pol _ (nth_mem (by have := h.pol; omega))
theorem PolOK.waits {n : Nat} {q : D.Policy} (h : PolOK n q) : waitsV q = true := by
  unfold waitsV
  refine List.all_eq_true.2 fun s hs => ?_
  have := (h.step s hs).wait
  simp; omega
theorem inV_is {n lo hi : Int} : inV n lo hi = true ↔ lo ≤ n ∧ n ≤ hi := by simp [inV]
theorem PageInv.len (h : PageInv Q M b p) (hb : BookOK b) : p.Starts.length ≤ 13 ∧ 0 ≤ p.Next ∧ 0 ≤ p.Hands := by
  obtain ⟨t, h1, _⟩ := h.goes
  have h2 := h1.pos
  have h3 := countV_is (h.polOK hb)
  have h4 := h.next
  have h5 := h.hands
  omega
theorem PageInv.check (h : PageInv Q M b p) (hb : BookOK b) : checkV b p = true := by
  obtain ⟨t, h1, h2, _⟩ := h.goes
  have h3 := h1.pos
  have h4 := h1.fit
  have h5 := h.len hb
  have g0 := h.top; have g1 := h.id; have g2 := h.pol; have g3 := h.start; have g4 := h.next; have g5 := h.state; have g6 := h.by_; have g7 := h.last; have g8 := h.due; have g9 := h.until_; have g10 := h.snoozes; have g11 := h.hands
  unfold checkV startsV farV
  rw [h4.2.2 _ (Int.le_refl _), h.declined, h.seen, (h.polOK hb).waits]
  simp only [Bool.and_true, Bool.true_and, Bool.and_eq_true, inV_is, decide_eq_true_eq]
  omega
theorem PageInv.mono {Q' : Int → D.Start → Prop} (h : PageInv Q M b p) (hq : ∀ s, Q p.Policy s → Q' p.Policy s) : PageInv Q' M b p := by
  obtain ⟨t, h1, h2⟩ := h.goes
  refine { h with goes := ⟨t, ?_, h2⟩ }
  generalize p.Hands = hh at h1
  generalize p.Next = nn at h1
  generalize p.Starts = ss at h1
  clear h2
  induction h1 with
  | nil => exact .nil
  | step g a1 a2 a3 a4 ih => exact .step ih a1 a2 a3 (hq _ a4)
  | hand g a1 a2 a3 a4 ih => exact .hand ih a1 a2 a3 a4
theorem step_in {n : Nat} {q : D.Policy} (h : PolOK n q) {k : Int} (hk : 0 ≤ k) : nth q.Steps (k % (q.Steps.length : Int)).toNat ∈ q.Steps := by
  have := h.len
  refine nth_mem ?_
  have h1 := Int.emod_nonneg k (b := (q.Steps.length : Int)) (by omega)
  have h2 := Int.emod_lt_of_pos k (b := (q.Steps.length : Int)) (by omega)
  omega
theorem PageInv.stepQ_inv {c : D.Config} (h : PageInv Q M b p) (hb : BookOK b) (hd : (dueV p).2 = true) (hQ : p.State = 0 → p.Next < countV (polOf b p) → Q p.Policy ⟨p.Next, p.Due, callV c b (stepAt b p) p.Due⟩) : PageInv Q M b (stepQ c b p) := by
  obtain ⟨t, h1, h2, h3, h4⟩ := h.goes
  have hp := h1.pos
  have hs : p.State = 0 ∨ p.State = 2 := due_state hd
  have g0 := h.top; have g3 := h.start; have g7 := h.last; have g8 := h.due; have g9 := h.until_
  have g10 := h.dueO; have g11 := h.untilS; have gn := h.next
  unfold stepQ
  split
  · rename_i e2
    have e3 := h4 e2
    have hne : p.Starts ≠ [] := fun e => by have := (h.first e).1; omega
    exact ⟨h.top, h.id, h.pol, h.start, ⟨t, h1, by dsimp only; omega, fun _ => e3, fun e => by simp at e⟩, h.next, by dsimp only; omega, h.by_, by dsimp only; omega, g9, g9, fun _ => g11 e2, fun e => by simp at e, h.snoozes, h.hands, fun e => absurd e hne, fun e => by simp at e, h.declined, h.seen⟩
  · rename_i e2
    have e0 : p.State = 0 := by omega
    have e3 := h3 e0
    have e4 := g10 e0
    split
    · rename_i e5
      have hc := countV_is (h.polOK hb)
      have hne : p.Starts ≠ [] := fun e => by
        have : (p.Starts.length : Int) = p.Next + p.Hands := hp.2.2.1
        rw [e] at this
        have h0 := hp.1; have h9 := hp.2.1
        simp at this; omega
      exact ⟨h.top, h.id, h.pol, h.start, ⟨t, h1, by dsimp only; omega, fun e => by simp at e, fun e => by simp at e⟩, h.next, by dsimp only; omega, h.by_, by dsimp only; omega, g8, g9, fun e => by simp at e, fun e => by simp at e, h.snoozes, h.hands, fun e => absurd e hne, fun _ => by show p.Next = countV (polOf b p); omega, h.declined, h.seen⟩
    · rename_i e5
      have hw := (h.polOK hb).step _ (step_in (h.polOK hb) hp.1)
      have hw' : 0 ≤ (stepAt b p).Wait ∧ (stepAt b p).Wait ≤ 900 := hw.wait
      have hdue : (if callV c b (stepAt b p) p.Due = [] then p.Due else p.Due + (stepAt b p).Wait) ≤ p.Due + 900 ∧ p.Due ≤ (if callV c b (stepAt b p) p.Due = [] then p.Due else p.Due + (stepAt b p).Wait) := by split <;> omega
      refine ⟨h.top, h.id, h.pol, h.start, ⟨p.Due, .step h1 e3 (fun e => ?_) setV_call (hQ e0 (by omega)), by dsimp only; omega, fun _ => hdue.2, fun e => ?_⟩, ?_, h.state, h.by_, by dsimp only; omega, ?_, g9, fun _ => ?_, fun e => absurd e e2, h.snoozes, h.hands, fun e => by simp at e, fun e => ?_, by dsimp only; decide, h.seen⟩
      · exact (h.first e).2
      · exact absurd e e2
      · show p.Next + 1 ≤ countV (polOf b p); omega
      · dsimp only; omega
      · show (if callV c b (stepAt b p) p.Due = [] then p.Due else p.Due + (stepAt b p).Wait) + 900 * (countV (polOf b p) - (p.Next + 1)) ≤ M
        omega
      · exact absurd e (by dsimp only; omega)
theorem PageInv.answerQ_inv {a : D.Answer} (h : PageInv Q M b p) (hb : BookOK b) (hv : validV a = true) (ha : a.At ≤ M - 20000) (hs : a.Kind = 3 → a.Arg ≤ 5000) (hseen : p.Seen.contains a.ID = false) (hr : refusedV p a = 0) : PageInv Q M b (answerQ p a) := by
  obtain ⟨t, h1, h2, h3, h4⟩ := h.goes
  have hp := h1.pos
  unfold validV at hv
  simp only [Bool.and_eq_true, inV_is] at hv
  obtain ⟨⟨⟨⟨⟨v1, v2⟩, v3⟩, v4⟩, v5⟩, v6⟩ := hv
  unfold refusedV at hr
  split at hr
  · simp at hr
  rename_i r1
  split at hr
  · simp at hr
  rename_i r2
  split at hr
  · simp at hr
  rename_i r3
  have hw : waitB p a.At = false := by cases hb : waitB p a.At <;> simp_all
  have hla : p.Last ≤ a.At := by omega
  have hne : p.Starts ≠ [] := fun e => by
    obtain ⟨e1, e2⟩ := h.first e
    have hst : p.Start ≤ t := hp.2.2.2
    unfold waitB dueV at hw
    rw [if_pos e1] at hw
    simp at hw; omega
  have g0 := h.top; have g3 := h.start; have g7 := h.last; have g8 := h.due; have g9 := h.until_
  have g10 := h.dueO; have g11 := h.untilS; have gn := h.next; have gs := h.snoozes; have gh := h.hands; have gst := h.state
  have hc := countV_is (h.polOK hb)
  have hsn : seenV (p.Seen ++ [a.ID]) = true := by
    have := h.seen
    unfold seenV at this ⊢
    simp only [Bool.and_eq_true, decide_eq_true_eq] at this ⊢
    refine ⟨List.nodup_append.2 ⟨this.1, by simp, fun x hx y hy e => ?_⟩, by simp only [List.length_append, List.length_cons, List.length_nil]; omega⟩
    rw [List.mem_singleton.1 hy] at e
    subst e
    rw [List.contains_iff_mem.2 hx] at hseen; simp at hseen
  have hdec : setV (declQ p a) = true := by
    have hd := setV_is.1 h.declined
    unfold declQ
    split
    · rename_i hcal
      refine setV_is.2 ⟨(plusV_is hd.1).1, fun x hx => ?_⟩
      rcases ((plusV_is hd.1).2 x).1 hx with hx | rfl
      · exact hd.2 x hx
      · have hm := List.contains_iff_mem.1 hcal
        have hst := (h1.fit.2.2 _ (Int.le_refl _))
        have hall : ∀ {nx : Int} {l : List D.Start} {k t : Int}, startsF nx k t l = true → ∀ s ∈ l, setV s.People = true := by
          intro nx l
          induction l with
          | nil => intro k t _ s hs; simp at hs
          | cons y l ih =>
            intro k t hq s hs
            rw [startsF] at hq
            simp only [Bool.and_eq_true] at hq
            rcases List.mem_cons.1 hs with rfl | hs
            · exact hq.1.2
            · exact ih hq.2 s hs
        unfold calledV at hm
        rw [if_neg hne] at hm
        have hlen : 0 < p.Starts.length := List.length_pos_iff.2 hne
        exact (setV_is.1 (hall hst _ (nth_mem (by omega)))).2 _ hm
    · exact h.declined
  unfold answerQ
  split
  · split
    · exact ⟨h.top, h.id, h.pol, h.start, ⟨t, h1, h2, h3, h4⟩, h.next, h.state, h.by_, h.last, h.due, h.until_, h.dueO, h.untilS, h.snoozes, h.hands, fun e => absurd e hne, h.ended, h.declined, hsn⟩
    · exact ⟨h.top, h.id, h.pol, h.start, ⟨t, h1, by dsimp only; omega, fun e => by simp at e, fun e => by simp at e⟩, h.next, by dsimp only; omega, v3, by dsimp only; omega, h.due, h.until_, fun e => by simp at e, fun e => by simp at e, h.snoozes, h.hands, fun e => absurd e hne, fun e => by simp at e, h.declined, hsn⟩
  · split
    · have hdue : (if allDown p a = true ∧ p.State = 0 then a.At else p.Due) = p.Due ∨ ((if allDown p a = true ∧ p.State = 0 then a.At else p.Due) = a.At ∧ p.State = 0) := by
        split
        · rename_i hx; exact .inr ⟨rfl, hx.2⟩
        · exact .inl rfl
      refine ⟨h.top, h.id, h.pol, h.start, ⟨t, h1, by dsimp only; omega, fun e => ?_, h4⟩, h.next, h.state, h.by_, by dsimp only; omega, ?_, h.until_, fun e => ?_, h.untilS, h.snoozes, h.hands, fun e => absurd e hne, h.ended, hdec, hsn⟩
      · have := h3 e; dsimp only; omega
      · dsimp only; omega
      · have := g10 e
        show (if allDown p a = true ∧ p.State = 0 then a.At else p.Due) + 900 * (countV (polOf b p) - p.Next) ≤ M
        omega
    · split
      · rename_i k3
        rw [if_pos k3] at v6
        have v6 := inV_is.1 v6
        have := hs k3
        exact ⟨h.top, h.id, h.pol, h.start, ⟨t, h1, by dsimp only; omega, fun e => by simp at e, fun e => by dsimp only; omega⟩, h.next, by dsimp only; omega, v3, by dsimp only; omega, h.due, by dsimp only; omega, fun e => by simp at e, fun _ => by show a.At + a.Arg + 900 * (countV (polOf b p) - p.Next) ≤ M; omega, by dsimp only; omega, h.hands, fun e => absurd e hne, fun e => by simp at e, h.declined, hsn⟩
      · rename_i k3
        split
        · rename_i k4
          rw [if_neg k3, if_pos k4] at v6
          have v6 := inV_is.1 v6
          exact ⟨h.top, h.id, h.pol, h.start, ⟨a.At, .hand h1 (by omega) hne v6.1 v6.2, by dsimp only; omega, fun e => by dsimp only; omega, fun e => by simp at e⟩, h.next, by dsimp only; omega, h.by_, by dsimp only; omega, by dsimp only; omega, h.until_, fun _ => by show a.At + 600 + 900 * (countV (polOf b p) - p.Next) ≤ M; omega, fun e => by simp at e, h.snoozes, by dsimp only; omega, fun e => by simp at e, fun e => by simp at e, by dsimp only; decide, hsn⟩
        · exact ⟨h.top, h.id, h.pol, h.start, ⟨t, h1, by dsimp only; omega, fun e => by simp at e, fun e => by simp at e⟩, h.next, by dsimp only; omega, v3, by dsimp only; omega, h.due, h.until_, fun e => by simp at e, fun e => by simp at e, h.snoozes, h.hands, fun e => absurd e hne, fun e => by simp at e, h.declined, hsn⟩
def newP (id pol start : Int) : D.Page := D.Page.mk id pol start 0 start 0 (-1) 0 start 0 0 [] [] []
theorem new_inv {id pol start : Int} (hM : M ≤ 8000000000) (hb : BookOK b) (h1 : 1 ≤ id ∧ id ≤ 999999) (h2 : 0 ≤ pol ∧ pol < (b.Policies.length : Int)) (h3 : 0 ≤ start ∧ start ≤ M - 20000) : PageInv Q M b (newP id pol start) := by
  have hp : PolOK b.Teams.length (polOf b (newP id pol start)) := hb.pol _ (nth_mem (by show pol.toNat < _; omega))
  have hc := countV_is hp
  exact ⟨hM, h1, h2, h3, ⟨start, .nil, Int.le_refl _, fun _ => Int.le_refl _, fun e => by simp [newP] at e⟩, by show 0 ≤ _; omega, by simp [newP], by simp [newP], by show start ≤ _; omega, by show 0 ≤ start ∧ start ≤ _; omega, by show (0:Int) ≤ 0 ∧ (0:Int) ≤ M; omega,
    fun _ => by show start + 900 * (_ - 0) ≤ _; omega, fun e => by simp [newP] at e, by simp [newP], by simp [newP], fun _ => ⟨rfl, rfl⟩, fun e => by simp [newP] at e, by dsimp only [newP]; decide, by dsimp only [newP]; decide⟩
def leftV (b : D.Book) (p : D.Page) : Nat := if p.State = 2 then (countV (polOf b p) - p.Next).toNat + 2 else if p.State = 0 then (countV (polOf b p) - p.Next).toNat + 1 else 0
theorem step_polOf {c : D.Config} : polOf b (stepQ c b p) = polOf b p := by
  unfold stepQ polOf
  split
  · rfl
  · split <;> rfl
theorem step_left {c : D.Config} (hd : (dueV p).2 = true) : leftV b (stepQ c b p) < leftV b p := by
  have hs : p.State = 0 ∨ p.State = 2 := due_state hd
  unfold leftV
  rw [step_polOf]
  unfold stepQ
  split
  · dsimp only; rw [if_neg (by omega), if_pos rfl]; omega
  · rename_i e2
    have e0 : p.State = 0 := by omega
    rw [if_pos e0]
    split
    · dsimp only; rw [if_neg (by omega), if_neg (by omega)]; omega
    · dsimp only; omega
theorem waitB_due {now : Int} (h : waitB p now = true) : (dueV p).2 = true ∧ (dueV p).1 ≤ now := by
  unfold waitB at h; simpa using h
theorem waitB_left {now : Int} (h : leftV b p = 0) : waitB p now = false := by
  unfold leftV at h
  unfold waitB dueV
  split at h
  · omega
  · rename_i e2
    split at h
    · omega
    · rename_i e0
      rw [if_neg e0, if_neg e2]; rfl
theorem PageInv.stepVis {c : D.Config} (h : PageInv Q M b p) (hb : BookOK b) (hd : (dueV p).2 = true) : stepV c b p = (stepQ c b p, 0) := by
  unfold stepV
  rw [h.check hb, hd, if_neg (by simp), if_neg (by simp), if_neg (by have := (h.len hb).1; omega)]
def StepQ (Q : Int → D.Start → Prop) (M : Int) (c : D.Config) (b : D.Book) : Prop := ∀ p, PageInv Q M b p → p.State = 0 → p.Next < countV (polOf b p) → Q p.Policy ⟨p.Next, p.Due, callV c b (stepAt b p) p.Due⟩
theorem runN_inv {c : D.Config} {now : Int} (hb : BookOK b) (hQ : StepQ Q M c b) : ∀ (n : Nat) {p : D.Page}, PageInv Q M b p → leftV b p ≤ n → PageInv Q M b (runN c b now n p).1 ∧ (runN c b now n p).2 = 0 ∧ waitB (runN c b now n p).1 now = false
  | 0, p, h, hl => ⟨h, rfl, waitB_left (b := b) (show leftV b p = 0 by omega)⟩
  | n + 1, p, h, hl => by
    rw [runN]
    split
    · rename_i hw
      have hd := waitB_due hw
      rw [h.stepVis hb hd.1, if_neg (by simp)]
      exact runN_inv hb hQ n (h.stepQ_inv hb hd.1 (hQ p h)) (by have := step_left (c := c) (b := b) hd.1; dsimp only; omega)
    · rename_i hw
      exact ⟨h, rfl, by dsimp only; cases hb : waitB p now <;> simp_all⟩
theorem leftV_le (hb : BookOK b) (h : PageInv Q M b p) : leftV b p ≤ 11 := by
  have hc := countV_is (h.polOK hb)
  have := (h.len hb).2
  unfold leftV
  split
  · omega
  · split <;> omega
theorem runV_inv {c : D.Config} {now : Int} (hb : BookOK b) (hQ : StepQ Q M c b) (h : PageInv Q M b p) : PageInv Q M b (runV c b p now).1 ∧ (runV c b p now).2 = 0 ∧ waitB (runV c b p now).1 now = false := by
  unfold runV
  rw [h.check hb, if_neg (by simp)]
  exact runN_inv hb hQ 100 h (by have := leftV_le hb h; omega)
theorem runV_is {c : D.Config} {now : Int} (h : checkV b p = true) : runV c b p now = runN c b now 100 p := by unfold runV; rw [h, if_neg (by simp)]
end
end Go.Proofs.YtfhcigjkfelnfaaGreat
/-
  What functions do, reckoned from their code, and their contracts. Printed by wip/gen/brun.py.
-/
set_option maxRecDepth 100000
set_option linter.unusedVariables false
namespace Go.Proofs.YtfhcigjkfelnfaaGreat
open Go AM
noncomputable section
abbrev nI : SSh := .one (.num .i64)
abbrev kI : Sh := .num .i64
abbrev P3 : Type := Int × (Int × (Int × Unit))
abbrev P4 : Type := Int × (Int × (Int × (Int × Unit)))
abbrev P5 : Type := Int × (Int × (Int × (Int × (Int × Unit))))
abbrev P6 : Type := Int × (Int × (Int × (Int × (Int × (Int × Unit)))))
abbrev P7 : Type := Int × (Int × (Int × (Int × (Int × (Int × (Int × Unit))))))
abbrev P8 : Type := Int × (Int × (Int × (Int × (Int × (Int × (Int × (Int × Unit)))))))
abbrev P9 : Type := Int × (Int × (Int × (Int × (Int × (Int × (Int × (Int × (Int × Unit))))))))
abbrev P10 : Type := Int × (Int × (Int × (Int × (Int × (Int × (Int × (Int × (Int × (Int × Unit)))))))))
abbrev P11 : Type := Int × (Int × (Int × (Int × (Int × (Int × (Int × (Int × (Int × (Int × (Int × Unit))))))))))
abbrev P12 : Type := Int × (Int × (Int × (Int × (Int × (Int × (Int × (Int × (Int × (Int × (Int × (Int × Unit)))))))))))
abbrev P13 : Type := Int × (Int × (Int × (Int × (Int × (Int × (Int × (Int × (Int × (Int × (Int × (Int × (Int × Unit))))))))))))
def tyL : List (Nat × TC) := [(2, .int), (3, .int), (4, .bool), (5, .u8), (6, .u8), (9, .str), (10, .str), (11, .str), (32, .Config), (36, .Book), (40, .Ledger), (47, .Call), (51, .Page), (53, .Start), (59, .Policy), (63, .PolicyStep), (66, .int), (74, .Target), (80, .Team), (88, .Answer), (93, .Arr3Int), (108, .Edit), (110, .Op), (112, .Dice), (122, .Zone), (126, .Person), (128, .Window), (130, .Local), (132, .Layer), (136, .Schedule), (170, .View), (177, .Table), (201, .int), (243, .Calendar), (270, .YearRule), (279, .Transition), (286, .Date), (299, .Occurrence), (304, .occurrence), (334, .Piece), (341, .u8), (342, .u8)]
def ty (t : Nat) : Option TC := AM.look t tyL
def civil_Weekday (fu : Nat) (p0 : Int) : Option (Int) :=
 (nzc 7 (nzc 7 (some (Int.tmod (IntKind.wrap .i64 ((Int.tmod p0 7) + 10)) 7))))
def civil_Weekday_g (fu : Nat) : Sig := mkSig [nI] [] [nI] [] [] (Int) (fun q => ((q, ()), ())) (fun x y => civil_Weekday fu x.1)
theorem civil_Weekday_ok (fu : Nat) : FnOK Tryz.prog 182 (civil_Weekday_g fu) :=
 FnOK.intro (ty := ty) (E := envL []) (fu := fu) (an := .go) (fun a b => a.1) (fun _ _ => rfl) (envL_ok (l := []) trivial) Tryz.func182 rfl rfl (fun x y => by kernel_rfl)
def week_SecondOf (fu : Nat) (p0 : D.Local) : Option (Int) :=
 (optc (civil_Weekday fu (D.Local.Day p0)) fun a0 =>
 (some (IntKind.wrap .i64 ((IntKind.wrap .i64 (a0 * 86400)) + (D.Local.Second p0)))))
def cmp_isNaN_int (fu : Nat) (p0 : Int) : Option (Bool) :=
 (some (decide (p0 ≠ p0)))
def cmp_isNaN_int_g (fu : Nat) : Sig := mkSig [nI] [] [.one (.boo)] [] [] (Bool) (fun q => ((q, ()), ())) (fun x y => cmp_isNaN_int fu x.1)
theorem cmp_isNaN_int_ok (fu : Nat) : FnOK Tryz.prog 200 (cmp_isNaN_int_g fu) :=
 FnOK.intro (ty := ty) (E := envL []) (fu := fu) (an := .go) (fun a b => a.1) (fun _ _ => rfl) (envL_ok (l := []) trivial) Tryz.func200 rfl rfl (fun x y => by kernel_rfl)
def cmp_Less_int (fu : Nat) (p0 : Int) (p1 : Int) : Option (Bool) :=
 (optc (cmp_isNaN_int fu p0) fun a0 =>
 (cnd a0
 (optc (cmp_isNaN_int fu p1) fun a1 =>
 (cnd a1
 (cnd (decide (p0 < p1))
 (some true)
 (some false))
 (some true)))
 (cnd (decide (p0 < p1))
 (some true)
 (some false))))
def cmp_Less_int_g (fu : Nat) : Sig := mkSig [nI, nI] [] [.one (.boo)] [] [] (Bool) (fun q => ((q, ()), ())) (fun x y => cmp_Less_int fu x.1 x.2.1)
theorem cmp_Less_int_ok (fu : Nat) : FnOK Tryz.prog 162 (cmp_Less_int_g fu) :=
 FnOK.intro (ty := ty) (E := envL [(200, 0, cmp_isNaN_int_g fu)]) (fu := fu) (an := .go) (fun a b => a.1) (fun _ _ => rfl) (envL_ok ⟨cmp_isNaN_int_ok fu, trivial⟩) Tryz.func162 rfl rfl (fun x y => by kernel_rfl)
end
end Go.Proofs.YtfhcigjkfelnfaaGreat
/-
  stack.LayerOf: a range over a function (slices.Backward), for schedules of one layer: its contract, by the kit's laws of such ranges.
-/
namespace Go.Proofs.YtfhcigjkfelnfaaGreat
open Go Go.RowKit Go.Shelf Go.Proofs AM
set_option linter.unusedVariables false
set_option linter.unusedSimpArgs false
attribute [local go_sem] Oper.semAt_some
set_option maxRecDepth 100000
set_option maxHeartbeats 400000
structure Oth (b : Nat) (W W' : World) : Prop where
  size : W'.heap.size = W.heap.size
  same : ∀ k, k ≠ b → W'.heap[k]? = W.heap[k]?
  os : W'.os = W.os
  out : W'.output = W.output
noncomputable section
end
end Go.Proofs.YtfhcigjkfelnfaaGreat
