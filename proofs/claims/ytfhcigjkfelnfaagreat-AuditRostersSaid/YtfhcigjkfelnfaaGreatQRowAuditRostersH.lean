/-
  Pages on their way through their policies, in plain Lean: what steps, runs and answers make of them.
-/
import Derived.Test.YtfhcigjkfelnfaaGreatQRowAuditRostersG
import Derived.Test.YtfhcigjkfelnfaaGreatProg
import Derived.RangeFuncNested
import Derived.RangeFuncBound
import Derived.RangeFuncCalls
import Derived.RangeFuncLeaves
import Derived.Shelf.Abstract
import Derived.Shelf.RegionOpen
import Derived.WalkKit
import Derived.OwnWalkIn
import Derived.TacticsInMore
import Derived.LoopNIn
import Derived.LoopIn
import Derived.Scope
set_option maxRecDepth 100000
set_option linter.unusedSimpArgs false
set_option linter.unusedVariables false
namespace Go.Proofs.YtfhcigjkfelnfaaGreat
open Go AM
def bTeams : List ByteArray := [ByteArray.mk #[99, 111, 114, 101], ByteArray.mk #[119, 101, 98]]
def bPols : List ByteArray := [ByteArray.mk #[112], ByteArray.mk #[113], ByteArray.mk #[114]]
structure TeamOK (t : D.Team) : Prop where
  asc : Asc t.Members
  len : 1 ≤ t.Members.length ∧ t.Members.length ≤ 2
  mem : ∀ x ∈ t.Members, 0 ≤ x ∧ x < 4
structure TargetOK (n : Nat) (t : D.Target) : Prop where
  kind : t.Kind = 0 ∨ t.Kind = 1 ∨ t.Kind = 2
  lo : 0 ≤ t.Index
  person : t.Kind = 0 → t.Index < 4
  sched : t.Kind = 1 → t.Index < 2
  team : t.Kind = 2 → t.Index < (n : Int)
structure StepOK' (n : Nat) (s : D.PolicyStep) : Prop where
  wait : 0 ≤ s.Wait ∧ s.Wait ≤ 900
  len : s.Targets.length ≤ 2
  target : ∀ t ∈ s.Targets, TargetOK n t
structure PolOK (n : Nat) (p : D.Policy) : Prop where
  rep : 0 ≤ p.Repeat ∧ p.Repeat ≤ 2
  len : 1 ≤ p.Steps.length ∧ p.Steps.length ≤ 3
  step : ∀ s ∈ p.Steps, StepOK' n s
structure BookOK (b : D.Book) : Prop where
  tlen : b.Teams.length ≤ 2
  tname : b.Teams.map (·.Name) = bTeams.take b.Teams.length
  team : ∀ t ∈ b.Teams, TeamOK t
  plen : 1 ≤ b.Policies.length ∧ b.Policies.length ≤ 3
  pname : b.Policies.map (·.Name) = bPols.take b.Policies.length
  pol : ∀ p ∈ b.Policies, PolOK b.Teams.length p
def countV (p : D.Policy) : Int := if 0 ≤ p.Repeat ∧ p.Repeat ≤ 8 ∧ p.Steps.length ≤ 8 then (p.Steps.length : Int) * (p.Repeat + 1) else 0
theorem countV_is {n : Nat} {p : D.Policy} (h : PolOK n p) : countV p = (p.Steps.length : Int) * (p.Repeat + 1) ∧ 1 ≤ countV p ∧ countV p ≤ 9 := by
  have h1 := h.rep
  have h2 := h.len
  have e : countV p = (p.Steps.length : Int) * (p.Repeat + 1) := by unfold countV; rw [if_pos (by omega)]
  refine ⟨e, ?_⟩
  rw [e]
  have h3 : p.Repeat = 0 ∨ p.Repeat = 1 ∨ p.Repeat = 2 := by omega
  rcases h3 with h3 | h3 | h3 <;> rw [h3] <;> omega
def peopleV (c : D.Config) (b : D.Book) (l : List D.Target) (t : Int) : List Int := ([0, 1, 2, 3] : List Int).filter fun z => l.any fun x => (meantV c b x t).contains z
theorem peopleV_mem {c : D.Config} {b : D.Book} {l : List D.Target} {t z : Int} : z ∈ peopleV c b l t ↔ Means c b l t z := by
  unfold peopleV Means
  simp only [List.mem_filter, List.any_eq_true, List.contains_iff_mem, List.mem_cons, List.not_mem_nil, or_false]
  constructor
  · rintro ⟨h, x, hx⟩; exact ⟨by omega, by omega, x, hx⟩
  · rintro ⟨h1, h2, x, hx⟩; exact ⟨by omega, x, hx⟩
theorem asc4 : Asc [0, 1, 2, 3] := by unfold Asc; decide
theorem peopleV_asc {c : D.Config} {b : D.Book} {l : List D.Target} {t : Int} : Asc (peopleV c b l t) := List.Pairwise.filter _ asc4
theorem peopleV_len {c : D.Config} {b : D.Book} {l : List D.Target} {t : Int} : (peopleV c b l t).length ≤ 4 := List.length_filter_le _ _
theorem peopleV_is {c : D.Config} {b : D.Book} {l : List D.Target} {t : Int} {r : List Int} (h : Asc r) (hm : ∀ z, z ∈ r ↔ Means c b l t z) : r = peopleV c b l t :=
  asc_ext h peopleV_asc fun z => (hm z).trans peopleV_mem.symm
def callV (c : D.Config) (b : D.Book) (s : D.PolicyStep) (t : Int) : List Int := (peopleV c b s.Targets t).filter fun z => reachV c z t s.Urgent
theorem callV_asc {c : D.Config} {b : D.Book} {s : D.PolicyStep} {t : Int} : Asc (callV c b s t) := List.Pairwise.filter _ peopleV_asc
theorem callV_len {c : D.Config} {b : D.Book} {s : D.PolicyStep} {t : Int} : (callV c b s t).length ≤ 4 := Nat.le_trans (List.length_filter_le _ _) peopleV_len
theorem callV_mem {c : D.Config} {b : D.Book} {s : D.PolicyStep} {t z : Int} : z ∈ callV c b s t → 0 ≤ z ∧ z < 4 := fun h => by
  have := peopleV_mem.1 (List.mem_filter.1 h).1
  exact ⟨this.1, this.2.1⟩
def polOf (b : D.Book) (p : D.Page) : D.Policy := nth b.Policies p.Policy.toNat
def dueV (p : D.Page) : Int × Bool := if p.State = 0 then (p.Due, true) else if p.State = 2 then (p.Until, true) else (0, false)
def calledV (p : D.Page) : List Int := if p.Starts = [] then [] else (nth p.Starts (p.Starts.length - 1)).People
def setF (n : Int) : Int → List Int → Bool
  | _, [] => true
  | k, x :: r => decide (0 ≤ x) && decide (x < n) && decide (k < x) && setF n x r
def setV (l : List Int) : Bool := setF 32 (-1) l
def startsF (next : Int) : Int → Int → List D.Start → Bool
  | _, _, [] => true
  | k, t, x :: r => decide (t ≤ x.At) && (decide (x.K = -1) || decide (0 ≤ x.K) && decide (k < x.K) && decide (x.K < next)) && setV x.People && startsF next (max k x.K) x.At r
def startsV (p : D.Page) : Bool := startsF p.Next (-1) p.Start p.Starts && decide (p.Starts.length ≤ 200)
def seenV (l : List Int) : Bool := decide l.Nodup && decide (l.length ≤ 64)
def waitsV (p : D.Policy) : Bool := p.Steps.all fun s => decide (0 ≤ s.Wait) && decide (s.Wait ≤ 86400)
def farV : Int := 17179869184
def inV (n lo hi : Int) : Bool := decide (lo ≤ n) && decide (n ≤ hi)
def checkV (b : D.Book) (p : D.Page) : Bool :=
  inV p.ID 1 999999 && inV p.Policy 0 ((b.Policies.length : Int) - 1) && inV p.Start 0 8589934592 && waitsV (polOf b p) && inV p.Next 0 (countV (polOf b p)) &&
  inV p.State 0 4 && inV p.By (-1) 31 && inV p.Last p.Start farV && inV p.Due 0 farV && inV p.Until 0 farV && inV p.Snoozes 0 4 && inV p.Hands 0 4 && startsV p && setV p.Declined && seenV p.Seen
def page0 : D.Page := D.Page.mk 0 0 0 0 0 0 0 0 0 0 0 [] [] []
def stepAt (b : D.Book) (p : D.Page) : D.PolicyStep := nth (polOf b p).Steps (p.Next % ((polOf b p).Steps.length : Int)).toNat
def stepQ (c : D.Config) (b : D.Book) (p : D.Page) : D.Page :=
  if p.State = 2 then { p with State := 0, Due := p.Until, Last := max p.Until p.Last }
  else if countV (polOf b p) ≤ p.Next then { p with State := 3, Last := max p.Due p.Last }
  else { p with Last := max p.Due p.Last, Starts := p.Starts ++ [⟨p.Next, p.Due, callV c b (stepAt b p) p.Due⟩], Declined := [], Next := p.Next + 1,
                Due := if callV c b (stepAt b p) p.Due = [] then p.Due else p.Due + (stepAt b p).Wait }
def stepV (c : D.Config) (b : D.Book) (p : D.Page) : D.Page × Int :=
  if checkV b p = false then (page0, 8) else if (dueV p).2 = false then (page0, 9) else if p.Starts.length = 200 then (page0, 5) else (stepQ c b p, 0)
def waitB (p : D.Page) (now : Int) : Bool := (dueV p).2 && decide ((dueV p).1 ≤ now)
def runN (c : D.Config) (b : D.Book) (now : Int) : Nat → D.Page → D.Page × Int
  | 0, p => (p, 0)
  | n + 1, p => if waitB p now = true then (if (stepV c b p).2 ≠ 0 then (page0, (stepV c b p).2) else runN c b now n (stepV c b p).1) else (p, 0)
def runV (c : D.Config) (b : D.Book) (p : D.Page) (now : Int) : D.Page × Int := if checkV b p = false then (page0, 8) else runN c b now 100 p
def validV (a : D.Answer) : Bool :=
  inV a.ID 1 999999 && inV a.Page 1 999999 && inV a.Person (-1) 31 && inV a.At 0 8589934592 && inV a.Kind 1 5 && (if a.Kind = 3 then inV a.Arg 1 86400 else if a.Kind = 4 then inV a.Arg 0 31 else decide (a.Arg = 0))
def refusedV (p : D.Page) (a : D.Answer) : Int :=
  if a.At < p.Last ∨ waitB p a.At = true then 6
  else if p.State = 4 ∨ (p.State = 3 ∧ a.Kind ≠ 5) ∨ (p.State = 1 ∧ a.Kind = 2) then 9
  else if p.Seen.length = 64 ∨ (a.Kind = 3 ∧ p.Snoozes = 4) ∨ (a.Kind = 4 ∧ (p.Hands = 4 ∨ p.Starts.length = 200)) then 5 else 0
def plusV (l : List Int) (x : Int) : List Int := l.filter (fun z => decide (z < x)) ++ x :: l.filter (fun z => decide (x < z))
def declQ (p : D.Page) (a : D.Answer) : List Int := if (calledV p).contains a.Person = true then plusV p.Declined a.Person else p.Declined
def allDown (p : D.Page) (a : D.Answer) : Bool := decide (calledV p ≠ []) && (calledV p).all fun z => (declQ p a).contains z
def answerQ (p : D.Page) (a : D.Answer) : D.Page :=
  if a.Kind = 1 then (if p.State = 1 then { p with Seen := p.Seen ++ [a.ID] } else { p with Seen := p.Seen ++ [a.ID], Last := a.At, State := 1, By := a.Person })
  else if a.Kind = 2 then { p with Seen := p.Seen ++ [a.ID], Last := a.At, Declined := declQ p a, Due := if allDown p a = true ∧ p.State = 0 then a.At else p.Due }
  else if a.Kind = 3 then { p with Seen := p.Seen ++ [a.ID], Last := a.At, State := 2, By := a.Person, Until := a.At + a.Arg, Snoozes := p.Snoozes + 1 }
  else if a.Kind = 4 then { p with Seen := p.Seen ++ [a.ID], Last := a.At, State := 0, Due := a.At + 600, Hands := p.Hands + 1, Declined := [], Starts := p.Starts ++ [⟨-1, a.At, [a.Arg]⟩] }
  else { p with Seen := p.Seen ++ [a.ID], Last := a.At, State := 4, By := a.Person }
def answerV (b : D.Book) (p : D.Page) (a : D.Answer) : D.Page × Int :=
  if checkV b p = false ∨ validV a = false then (page0, 8) else if a.Page ≠ p.ID then (page0, 3) else if p.Seen.contains a.ID = true then (p, 0)
  else if refusedV p a ≠ 0 then (page0, refusedV p a) else (answerQ p a, 0)
end Go.Proofs.YtfhcigjkfelnfaaGreat
/-
  What holds of pages on their way, in plain Lean: invariants of steps, runs and answers.
-/
set_option maxRecDepth 100000
set_option linter.unusedSimpArgs false
set_option linter.unusedVariables false
namespace Go.Proofs.YtfhcigjkfelnfaaGreat
open Go AM
inductive Goes (Q : D.Start → Prop) (st : Int) : List D.Start → Int → Int → Int → Prop
  | nil : Goes Q st [] 0 st 0
  | step {l k t h a P} : Goes Q st l k t h → t ≤ a → (l = [] → a = st) → setV P = true → Q ⟨k, a, P⟩ → Goes Q st (l ++ [⟨k, a, P⟩]) (k + 1) a h
  | hand {l k t h a x} : Goes Q st l k t h → t ≤ a → l ≠ [] → 0 ≤ x → x ≤ 31 → Goes Q st (l ++ [⟨-1, a, [x]⟩]) k a (h + 1)
section
variable {Q : D.Start → Prop} {st k t h : Int} {l : List D.Start}
theorem Goes.pos (g : Goes Q st l k t h) : 0 ≤ k ∧ 0 ≤ h ∧ (l.length : Int) = k + h ∧ st ≤ t := by
  induction g with
  | nil => simp
  | step g h1 _ _ _ ih => simp only [List.length_append, List.length_cons, List.length_nil]; omega
  | hand g h1 _ _ _ ih => simp only [List.length_append, List.length_cons, List.length_nil]; omega
def kF : Int → List D.Start → Int
  | k, [] => k
  | k, x :: r => kF (max k x.K) r
def tF : Int → List D.Start → Int
  | t, [] => t
  | t, x :: r => tF x.At r
theorem kF_snoc {x : D.Start} : ∀ {l : List D.Start} {k : Int}, kF k (l ++ [x]) = max (kF k l) x.K
  | [], _ => rfl
  | y :: l, k => kF_snoc (l := l) (k := max k y.K)
theorem tF_snoc {x : D.Start} : ∀ {l : List D.Start} {t : Int}, tF t (l ++ [x]) = x.At
  | [], _ => rfl
  | y :: l, t => tF_snoc (l := l) (t := y.At)
theorem startsF_snoc {nx : Int} {x : D.Start} : ∀ {l : List D.Start} {k t : Int}, startsF nx k t (l ++ [x]) = (startsF nx k t l &&
    (decide (tF t l ≤ x.At) && (decide (x.K = -1) || decide (0 ≤ x.K) && decide (kF k l < x.K) && decide (x.K < nx)) && setV x.People))
  | [], k, t => by
    show (_ && true) = (true && _)
    rw [Bool.and_true, Bool.true_and]; rfl
  | y :: l, k, t => by
    rw [List.cons_append, startsF, startsF_snoc (l := l), startsF, kF, tF]
    simp only [Bool.and_assoc]
theorem setV_one {x : Int} (h0 : 0 ≤ x) (h1 : x ≤ 31) : setV [x] = true := by
  unfold setV setF setF; simp; omega
theorem Goes.fit (g : Goes Q st l k t h) : kF (-1) l = k - 1 ∧ tF st l = t ∧ ∀ nx, k ≤ nx → startsF nx (-1) st l = true := by
  induction g with
  | nil => exact ⟨rfl, rfl, fun _ _ => rfl⟩
  | step g h1 h2 h3 h4 ih =>
    obtain ⟨i1, i2, i3⟩ := ih
    have hp := g.pos
    refine ⟨by rw [kF_snoc, i1]; dsimp only; omega, tF_snoc, fun nx hn => ?_⟩
    rw [startsF_snoc, i3 nx (by omega), i1, i2]
    simp only [h3, Bool.true_and, Bool.and_true, Bool.and_eq_true, Bool.or_eq_true, decide_eq_true_eq]
    omega
  | hand g h1 h2 h3 h4 ih =>
    obtain ⟨i1, i2, i3⟩ := ih
    have hp := g.pos
    refine ⟨by rw [kF_snoc, i1]; dsimp only; omega, tF_snoc, fun nx hn => ?_⟩
    rw [startsF_snoc, i3 nx hn, i1, i2, setV_one h3 h4]
    simp [h1]
end
theorem setF_is {n : Int} : ∀ {l : List Int} {k : Int}, setF n k l = true ↔ Asc l ∧ ∀ x ∈ l, 0 ≤ x ∧ x < n ∧ k < x
  | [], k => by simp [setF, Asc]
  | y :: l, k => by
    rw [setF]
    simp only [Bool.and_eq_true, decide_eq_true_eq, setF_is (l := l), Asc, List.pairwise_cons, List.mem_cons, forall_eq_or_imp]
    constructor
    · rintro ⟨⟨⟨h1, h2⟩, h3⟩, h4, h5⟩
      exact ⟨⟨fun z hz => (h5 z hz).2.2, h4⟩, ⟨h1, h2, h3⟩, fun z hz => ⟨(h5 z hz).1, (h5 z hz).2.1, by have := (h5 z hz).2.2; omega⟩⟩
    · rintro ⟨⟨h1, h2⟩, ⟨h3, h4, h5⟩, h6⟩
      exact ⟨⟨⟨h3, h4⟩, h5⟩, h2, fun z hz => ⟨(h6 z hz).1, (h6 z hz).2.1, h1 z hz⟩⟩
theorem setV_is {l : List Int} : setV l = true ↔ Asc l ∧ ∀ x ∈ l, 0 ≤ x ∧ x < 32 := by
  unfold setV; rw [setF_is]
  constructor
  · rintro ⟨h1, h2⟩; exact ⟨h1, fun x hx => ⟨(h2 x hx).1, (h2 x hx).2.1⟩⟩
  · rintro ⟨h1, h2⟩; exact ⟨h1, fun x hx => ⟨(h2 x hx).1, (h2 x hx).2, by have := h2 x hx; omega⟩⟩
theorem setV_call {c : D.Config} {b : D.Book} {s : D.PolicyStep} {t : Int} : setV (callV c b s t) = true :=
  setV_is.2 ⟨callV_asc, fun x hx => by have := callV_mem hx; omega⟩
theorem plusV_is {l : List Int} {x : Int} (h : Asc l) : Asc (plusV l x) ∧ ∀ z, z ∈ plusV l x ↔ z ∈ l ∨ z = x := by
  unfold plusV
  refine ⟨?_, fun z => ?_⟩
  · refine List.pairwise_append.2 ⟨List.Pairwise.filter _ h, List.pairwise_cons.2 ⟨fun a ha => ?_, List.Pairwise.filter _ h⟩, fun a ha b hb => ?_⟩
    · simpa using (List.mem_filter.1 ha).2
    · have h1 : a < x := by simpa using (List.mem_filter.1 ha).2
      rcases List.mem_cons.1 hb with rfl | hb
      · exact h1
      · have h2 : x < b := by simpa using (List.mem_filter.1 hb).2
        omega
  · simp only [List.mem_append, List.mem_cons, List.mem_filter, decide_eq_true_eq]
    constructor
    · rintro (⟨h1, _⟩ | h1 | ⟨h1, _⟩)
      · exact .inl h1
      · exact .inr h1
      · exact .inl h1
    · rintro (h1 | h1)
      · rcases Int.lt_trichotomy z x with h2 | h2 | h2
        · exact .inl ⟨h1, h2⟩
        · exact .inr (.inl h2)
        · exact .inr (.inr ⟨h1, h2⟩)
      · exact .inr (.inl h1)
theorem due_state {p : D.Page} (hd : (dueV p).2 = true) : p.State = 0 ∨ p.State = 2 := by
  unfold dueV at hd
  split at hd
  · exact .inl ‹_›
  · split at hd
    · exact .inr ‹_›
    · simp at hd
structure PageInv (Q : Int → D.Start → Prop) (M : Int) (b : D.Book) (p : D.Page) : Prop where
  top : M ≤ 8000000000
  id : 1 ≤ p.ID ∧ p.ID ≤ 999999
  pol : 0 ≤ p.Policy ∧ p.Policy < (b.Policies.length : Int)
  start : 0 ≤ p.Start ∧ p.Start ≤ M - 20000
  goes : ∃ t, Goes (Q p.Policy) p.Start p.Starts p.Next t p.Hands ∧ t ≤ p.Last ∧ (p.State = 0 → t ≤ p.Due) ∧ (p.State = 2 → t ≤ p.Until)
  next : p.Next ≤ countV (polOf b p)
  state : 0 ≤ p.State ∧ p.State ≤ 4
  by_ : -1 ≤ p.By ∧ p.By ≤ 31
  last : p.Last ≤ M
  due : 0 ≤ p.Due ∧ p.Due ≤ M
  until_ : 0 ≤ p.Until ∧ p.Until ≤ M
  dueO : p.State = 0 → p.Due + 900 * (countV (polOf b p) - p.Next) ≤ M
  untilS : p.State = 2 → p.Until + 900 * (countV (polOf b p) - p.Next) ≤ M
  snoozes : 0 ≤ p.Snoozes ∧ p.Snoozes ≤ 4
  hands : p.Hands ≤ 4
  first : p.Starts = [] → p.State = 0 ∧ p.Due = p.Start
  ended : p.State = 3 → p.Next = countV (polOf b p)
  declined : setV p.Declined = true
  seen : seenV p.Seen = true
section
variable {Q : Int → D.Start → Prop} {M : Int} {b : D.Book} {p : D.Page}
theorem PageInv.polOK (h : PageInv Q M b p) (hb : BookOK b) : PolOK b.Teams.length (polOf b p) := hb.pol _ (nth_mem (by have := h.pol; omega))
theorem PolOK.waits {n : Nat} {q : D.Policy} (h : PolOK n q) : waitsV q = true := by
  unfold waitsV
  refine List.all_eq_true.2 fun s hs => ?_
  have := (h.step s hs).wait
  simp; omega
theorem inV_is {n lo hi : Int} : inV n lo hi = true ↔ lo ≤ n ∧ n ≤ hi := by simp [inV]
theorem PageInv.len (h : PageInv Q M b p) (hb : BookOK b) : p.Starts.length ≤ 13 ∧ 0 ≤ p.Next ∧ 0 ≤ p.Hands := by
  obtain ⟨t, h1, _⟩ := h.goes
  have h2 := h1.pos
  have h3 := countV_is (h.polOK hb)
  have h4 := h.next
  have h5 := h.hands
  omega
theorem PageInv.check (h : PageInv Q M b p) (hb : BookOK b) : checkV b p = true := by
  obtain ⟨t, h1, h2, _⟩ := h.goes
  have h3 := h1.pos
  have h4 := h1.fit
  have h5 := h.len hb
  have g0 := h.top; have g1 := h.id; have g2 := h.pol; have g3 := h.start; have g4 := h.next; have g5 := h.state; have g6 := h.by_; have g7 := h.last; have g8 := h.due; have g9 := h.until_; have g10 := h.snoozes; have g11 := h.hands
  unfold checkV startsV farV
  rw [h4.2.2 _ (Int.le_refl _), h.declined, h.seen, (h.polOK hb).waits]
  simp only [Bool.and_true, Bool.true_and, Bool.and_eq_true, inV_is, decide_eq_true_eq]
  omega
theorem PageInv.mono {Q' : Int → D.Start → Prop} (h : PageInv Q M b p) (hq : ∀ s, Q p.Policy s → Q' p.Policy s) : PageInv Q' M b p := by
  obtain ⟨t, h1, h2⟩ := h.goes
  refine { h with goes := ⟨t, ?_, h2⟩ }
  generalize p.Hands = hh at h1
  generalize p.Next = nn at h1
  generalize p.Starts = ss at h1
  clear h2
  induction h1 with
  | nil => exact .nil
  | step g a1 a2 a3 a4 ih => exact .step ih a1 a2 a3 (hq _ a4)
  | hand g a1 a2 a3 a4 ih => exact .hand ih a1 a2 a3 a4
theorem step_in {n : Nat} {q : D.Policy} (h : PolOK n q) {k : Int} (hk : 0 ≤ k) : nth q.Steps (k % (q.Steps.length : Int)).toNat ∈ q.Steps := by
  have := h.len
  refine nth_mem ?_
  have h1 := Int.emod_nonneg k (b := (q.Steps.length : Int)) (by omega)
  have h2 := Int.emod_lt_of_pos k (b := (q.Steps.length : Int)) (by omega)
  omega
theorem PageInv.stepQ_inv {c : D.Config} (h : PageInv Q M b p) (hb : BookOK b) (hd : (dueV p).2 = true) (hQ : p.State = 0 → p.Next < countV (polOf b p) → Q p.Policy ⟨p.Next, p.Due, callV c b (stepAt b p) p.Due⟩) : PageInv Q M b (stepQ c b p) := by
  obtain ⟨t, h1, h2, h3, h4⟩ := h.goes
  have hp := h1.pos
  have hs : p.State = 0 ∨ p.State = 2 := due_state hd
  have g0 := h.top; have g3 := h.start; have g7 := h.last; have g8 := h.due; have g9 := h.until_
  have g10 := h.dueO; have g11 := h.untilS; have gn := h.next
  unfold stepQ
  split
  · rename_i e2
    have e3 := h4 e2
    have hne : p.Starts ≠ [] := fun e => by have := (h.first e).1; omega
    exact ⟨h.top, h.id, h.pol, h.start, ⟨t, h1, by dsimp only; omega, fun _ => e3, fun e => by simp at e⟩, h.next, by dsimp only; omega, h.by_, by dsimp only; omega, g9, g9, fun _ => g11 e2, fun e => by simp at e, h.snoozes, h.hands, fun e => absurd e hne, fun e => by simp at e, h.declined, h.seen⟩
  · rename_i e2
    have e0 : p.State = 0 := by omega
    have e3 := h3 e0
    have e4 := g10 e0
    split
    · rename_i e5
      have hc := countV_is (h.polOK hb)
      have hne : p.Starts ≠ [] := fun e => by
        have : (p.Starts.length : Int) = p.Next + p.Hands := hp.2.2.1
        rw [e] at this
        have h0 := hp.1; have h9 := hp.2.1
        simp at this; omega
      exact ⟨h.top, h.id, h.pol, h.start, ⟨t, h1, by dsimp only; omega, fun e => by simp at e, fun e => by simp at e⟩, h.next, by dsimp only; omega, h.by_, by dsimp only; omega, g8, g9, fun e => by simp at e, fun e => by simp at e, h.snoozes, h.hands, fun e => absurd e hne, fun _ => by show p.Next = countV (polOf b p); omega, h.declined, h.seen⟩
    · rename_i e5
      have hw := (h.polOK hb).step _ (step_in (h.polOK hb) hp.1)
      have hw' : 0 ≤ (stepAt b p).Wait ∧ (stepAt b p).Wait ≤ 900 := hw.wait
      have hdue : (if callV c b (stepAt b p) p.Due = [] then p.Due else p.Due + (stepAt b p).Wait) ≤ p.Due + 900 ∧ p.Due ≤ (if callV c b (stepAt b p) p.Due = [] then p.Due else p.Due + (stepAt b p).Wait) := by split <;> omega
      refine ⟨h.top, h.id, h.pol, h.start, ⟨p.Due, .step h1 e3 (fun e => ?_) setV_call (hQ e0 (by omega)), by dsimp only; omega, fun _ => hdue.2, fun e => ?_⟩, ?_, h.state, h.by_, by dsimp only; omega, ?_, g9, fun _ => ?_, fun e => absurd e e2, h.snoozes, h.hands, fun e => by simp at e, fun e => ?_, by dsimp only; decide, h.seen⟩
      · exact (h.first e).2
      · exact absurd e e2
      · show p.Next + 1 ≤ countV (polOf b p); omega
      · dsimp only; omega
      · show (if callV c b (stepAt b p) p.Due = [] then p.Due else p.Due + (stepAt b p).Wait) + 900 * (countV (polOf b p) - (p.Next + 1)) ≤ M
        omega
      · exact absurd e (by dsimp only; omega)
theorem PageInv.answerQ_inv {a : D.Answer} (h : PageInv Q M b p) (hb : BookOK b) (hv : validV a = true) (ha : a.At ≤ M - 20000) (hs : a.Kind = 3 → a.Arg ≤ 5000) (hseen : p.Seen.contains a.ID = false) (hr : refusedV p a = 0) : PageInv Q M b (answerQ p a) := by
  obtain ⟨t, h1, h2, h3, h4⟩ := h.goes
  have hp := h1.pos
  unfold validV at hv
  simp only [Bool.and_eq_true, inV_is] at hv
  obtain ⟨⟨⟨⟨⟨v1, v2⟩, v3⟩, v4⟩, v5⟩, v6⟩ := hv
  unfold refusedV at hr
  split at hr
  · simp at hr
  rename_i r1
  split at hr
  · simp at hr
  rename_i r2
  split at hr
  · simp at hr
  rename_i r3
  have hw : waitB p a.At = false := by cases hb : waitB p a.At <;> simp_all
  have hla : p.Last ≤ a.At := by omega
  have hne : p.Starts ≠ [] := fun e => by
    obtain ⟨e1, e2⟩ := h.first e
    have hst : p.Start ≤ t := hp.2.2.2
    unfold waitB dueV at hw
    rw [if_pos e1] at hw
    simp at hw; omega
  have g0 := h.top; have g3 := h.start; have g7 := h.last; have g8 := h.due; have g9 := h.until_
  have g10 := h.dueO; have g11 := h.untilS; have gn := h.next; have gs := h.snoozes; have gh := h.hands; have gst := h.state
  have hc := countV_is (h.polOK hb)
  have hsn : seenV (p.Seen ++ [a.ID]) = true := by
    have := h.seen
    unfold seenV at this ⊢
    simp only [Bool.and_eq_true, decide_eq_true_eq] at this ⊢
    refine ⟨List.nodup_append.2 ⟨this.1, by simp, fun x hx y hy e => ?_⟩, by simp only [List.length_append, List.length_cons, List.length_nil]; omega⟩
    rw [List.mem_singleton.1 hy] at e
    subst e
    rw [List.contains_iff_mem.2 hx] at hseen; simp at hseen
  have hdec : setV (declQ p a) = true := by
    have hd := setV_is.1 h.declined
    unfold declQ
    split
    · rename_i hcal
      refine setV_is.2 ⟨(plusV_is hd.1).1, fun x hx => ?_⟩
      rcases ((plusV_is hd.1).2 x).1 hx with hx | rfl
      · exact hd.2 x hx
      · have hm := List.contains_iff_mem.1 hcal
        have hst := (h1.fit.2.2 _ (Int.le_refl _))
        have hall : ∀ {nx : Int} {l : List D.Start} {k t : Int}, startsF nx k t l = true → ∀ s ∈ l, setV s.People = true := by
          intro nx l
          induction l with
          | nil => intro k t _ s hs; simp at hs
          | cons y l ih =>
            intro k t hq s hs
            rw [startsF] at hq
            simp only [Bool.and_eq_true] at hq
            rcases List.mem_cons.1 hs with rfl | hs
            · exact hq.1.2
            · exact ih hq.2 s hs
        unfold calledV at hm
        rw [if_neg hne] at hm
        have hlen : 0 < p.Starts.length := List.length_pos_iff.2 hne
        exact (setV_is.1 (hall hst _ (nth_mem (by omega)))).2 _ hm
    · exact h.declined
  unfold answerQ
  split
  · split
    · exact ⟨h.top, h.id, h.pol, h.start, ⟨t, h1, h2, h3, h4⟩, h.next, h.state, h.by_, h.last, h.due, h.until_, h.dueO, h.untilS, h.snoozes, h.hands, fun e => absurd e hne, h.ended, h.declined, hsn⟩
    · exact ⟨h.top, h.id, h.pol, h.start, ⟨t, h1, by dsimp only; omega, fun e => by simp at e, fun e => by simp at e⟩, h.next, by dsimp only; omega, v3, by dsimp only; omega, h.due, h.until_, fun e => by simp at e, fun e => by simp at e, h.snoozes, h.hands, fun e => absurd e hne, fun e => by simp at e, h.declined, hsn⟩
  · split
    · have hdue : (if allDown p a = true ∧ p.State = 0 then a.At else p.Due) = p.Due ∨ ((if allDown p a = true ∧ p.State = 0 then a.At else p.Due) = a.At ∧ p.State = 0) := by
        split
        · rename_i hx; exact .inr ⟨rfl, hx.2⟩
        · exact .inl rfl
      refine ⟨h.top, h.id, h.pol, h.start, ⟨t, h1, by dsimp only; omega, fun e => ?_, h4⟩, h.next, h.state, h.by_, by dsimp only; omega, ?_, h.until_, fun e => ?_, h.untilS, h.snoozes, h.hands, fun e => absurd e hne, h.ended, hdec, hsn⟩
      · have := h3 e; dsimp only; omega
      · dsimp only; omega
      · have := g10 e
        show (if allDown p a = true ∧ p.State = 0 then a.At else p.Due) + 900 * (countV (polOf b p) - p.Next) ≤ M
        omega
    · split
      · rename_i k3
        rw [if_pos k3] at v6
        have v6 := inV_is.1 v6
        have := hs k3
        exact ⟨h.top, h.id, h.pol, h.start, ⟨t, h1, by dsimp only; omega, fun e => by simp at e, fun e => by dsimp only; omega⟩, h.next, by dsimp only; omega, v3, by dsimp only; omega, h.due, by dsimp only; omega, fun e => by simp at e, fun _ => by show a.At + a.Arg + 900 * (countV (polOf b p) - p.Next) ≤ M; omega, by dsimp only; omega, h.hands, fun e => absurd e hne, fun e => by simp at e, h.declined, hsn⟩
      · rename_i k3
        split
        · rename_i k4
          rw [if_neg k3, if_pos k4] at v6
          have v6 := inV_is.1 v6
          exact ⟨h.top, h.id, h.pol, h.start, ⟨a.At, .hand h1 (by omega) hne v6.1 v6.2, by dsimp only; omega, fun e => by dsimp only; omega, fun e => by simp at e⟩, h.next, by dsimp only; omega, h.by_, by dsimp only; omega, by dsimp only; omega, h.until_, fun _ => by show a.At + 600 + 900 * (countV (polOf b p) - p.Next) ≤ M; omega, fun e => by simp at e, h.snoozes, by dsimp only; omega, fun e => by simp at e, fun e => by simp at e, by dsimp only; decide, hsn⟩
        · exact ⟨h.top, h.id, h.pol, h.start, ⟨t, h1, by dsimp only; omega, fun e => by simp at e, fun e => by simp at e⟩, h.next, by dsimp only; omega, v3, by dsimp only; omega, h.due, h.until_, fun e => by simp at e, fun e => by simp at e, h.snoozes, h.hands, fun e => absurd e hne, fun e => by simp at e, h.declined, hsn⟩
def newP (id pol start : Int) : D.Page := D.Page.mk id pol start 0 start 0 (-1) 0 start 0 0 [] [] []
theorem new_inv {id pol start : Int} (hM : M ≤ 8000000000) (hb : BookOK b) (h1 : 1 ≤ id ∧ id ≤ 999999) (h2 : 0 ≤ pol ∧ pol < (b.Policies.length : Int)) (h3 : 0 ≤ start ∧ start ≤ M - 20000) : PageInv Q M b (newP id pol start) := by
  have hp : PolOK b.Teams.length (polOf b (newP id pol start)) := hb.pol _ (nth_mem (by show pol.toNat < _; omega))
  have hc := countV_is hp
  exact ⟨hM, h1, h2, h3, ⟨start, .nil, Int.le_refl _, fun _ => Int.le_refl _, fun e => by simp [newP] at e⟩, by show 0 ≤ _; omega, by simp [newP], by simp [newP], by show start ≤ _; omega, by show 0 ≤ start ∧ start ≤ _; omega, by show (0:Int) ≤ 0 ∧ (0:Int) ≤ M; omega,
    fun _ => by show start + 900 * (_ - 0) ≤ _; omega, fun e => by simp [newP] at e, by simp [newP], by simp [newP], fun _ => ⟨rfl, rfl⟩, fun e => by simp [newP] at e, by dsimp only [newP]; decide, by dsimp only [newP]; decide⟩
def leftV (b : D.Book) (p : D.Page) : Nat := if p.State = 2 then (countV (polOf b p) - p.Next).toNat + 2 else if p.State = 0 then (countV (polOf b p) - p.Next).toNat + 1 else 0
theorem step_polOf {c : D.Config} : polOf b (stepQ c b p) = polOf b p := by
  unfold stepQ polOf
  split
  · rfl
  · split <;> rfl
theorem step_left {c : D.Config} (hd : (dueV p).2 = true) : leftV b (stepQ c b p) < leftV b p := by
  have hs : p.State = 0 ∨ p.State = 2 := due_state hd
  unfold leftV
  rw [step_polOf]
  unfold stepQ
  split
  · dsimp only; rw [if_neg (by omega), if_pos rfl]; omega
  · rename_i e2
    have e0 : p.State = 0 := by omega
    rw [if_pos e0]
    split
    · dsimp only; rw [if_neg (by omega), if_neg (by omega)]; omega
    · dsimp only; omega
theorem waitB_due {now : Int} (h : waitB p now = true) : (dueV p).2 = true ∧ (dueV p).1 ≤ now := by
  unfold waitB at h; simpa using h
theorem waitB_left {now : Int} (h : leftV b p = 0) : waitB p now = false := by
  unfold leftV at h
  unfold waitB dueV
  split at h
  · omega
  · rename_i e2
    split at h
    · omega
    · rename_i e0
      rw [if_neg e0, if_neg e2]; rfl
theorem PageInv.stepVis {c : D.Config} (h : PageInv Q M b p) (hb : BookOK b) (hd : (dueV p).2 = true) : stepV c b p = (stepQ c b p, 0) := by
  unfold stepV
  rw [h.check hb, hd, if_neg (by simp), if_neg (by simp), if_neg (by have := (h.len hb).1; omega)]
def StepQ (Q : Int → D.Start → Prop) (M : Int) (c : D.Config) (b : D.Book) : Prop := ∀ p, PageInv Q M b p → p.State = 0 → p.Next < countV (polOf b p) → Q p.Policy ⟨p.Next, p.Due, callV c b (stepAt b p) p.Due⟩
theorem runN_inv {c : D.Config} {now : Int} (hb : BookOK b) (hQ : StepQ Q M c b) : ∀ (n : Nat) {p : D.Page}, PageInv Q M b p → leftV b p ≤ n → PageInv Q M b (runN c b now n p).1 ∧ (runN c b now n p).2 = 0 ∧ waitB (runN c b now n p).1 now = false
  | 0, p, h, hl => ⟨h, rfl, waitB_left (b := b) (show leftV b p = 0 by omega)⟩
  | n + 1, p, h, hl => by
    rw [runN]
    split
    · rename_i hw
      have hd := waitB_due hw
      rw [h.stepVis hb hd.1, if_neg (by simp)]
      exact runN_inv hb hQ n (h.stepQ_inv hb hd.1 (hQ p h)) (by have := step_left (c := c) (b := b) hd.1; dsimp only; omega)
    · rename_i hw
      exact ⟨h, rfl, by dsimp only; cases hb : waitB p now <;> simp_all⟩
theorem leftV_le (hb : BookOK b) (h : PageInv Q M b p) : leftV b p ≤ 11 := by
  have hc := countV_is (h.polOK hb)
  have := (h.len hb).2
  unfold leftV
  split
  · omega
  · split <;> omega
theorem runV_inv {c : D.Config} {now : Int} (hb : BookOK b) (hQ : StepQ Q M c b) (h : PageInv Q M b p) : PageInv Q M b (runV c b p now).1 ∧ (runV c b p now).2 = 0 ∧ waitB (runV c b p now).1 now = false := by
  unfold runV
  rw [h.check hb, if_neg (by simp)]
  exact runN_inv hb hQ 100 h (by have := leftV_le hb h; omega)
theorem runV_is {c : D.Config} {now : Int} (h : checkV b p = true) : runV c b p now = runN c b now 100 p := by unfold runV; rw [h, if_neg (by simp)]
end
end Go.Proofs.YtfhcigjkfelnfaaGreat
/-
  What functions do, reckoned from their code, and their contracts. Printed by wip/gen/brun.py.
-/
set_option maxRecDepth 100000
set_option linter.unusedVariables false
namespace Go.Proofs.YtfhcigjkfelnfaaGreat
open Go AM
noncomputable section
abbrev nI : SSh := .one (.num .i64)
abbrev kI : Sh := .num .i64
abbrev P3 : Type := Int × (Int × (Int × Unit))
abbrev P4 : Type := Int × (Int × (Int × (Int × Unit)))
abbrev P5 : Type := Int × (Int × (Int × (Int × (Int × Unit))))
abbrev P6 : Type := Int × (Int × (Int × (Int × (Int × (Int × Unit)))))
abbrev P7 : Type := Int × (Int × (Int × (Int × (Int × (Int × (Int × Unit))))))
abbrev P8 : Type := Int × (Int × (Int × (Int × (Int × (Int × (Int × (Int × Unit)))))))
abbrev P9 : Type := Int × (Int × (Int × (Int × (Int × (Int × (Int × (Int × (Int × Unit))))))))
abbrev P10 : Type := Int × (Int × (Int × (Int × (Int × (Int × (Int × (Int × (Int × (Int × Unit)))))))))
abbrev P11 : Type := Int × (Int × (Int × (Int × (Int × (Int × (Int × (Int × (Int × (Int × (Int × Unit))))))))))
abbrev P12 : Type := Int × (Int × (Int × (Int × (Int × (Int × (Int × (Int × (Int × (Int × (Int × (Int × Unit)))))))))))
abbrev P13 : Type := Int × (Int × (Int × (Int × (Int × (Int × (Int × (Int × (Int × (Int × (Int × (Int × (Int × Unit))))))))))))
def tyL : List (Nat × TC) := [(2, .int), (3, .int), (4, .bool), (5, .u8), (6, .u8), (9, .str), (10, .str), (11, .str), (32, .Config), (36, .Book), (40, .Ledger), (47, .Call), (51, .Page), (53, .Start), (59, .Policy), (63, .PolicyStep), (66, .int), (74, .Target), (80, .Team), (88, .Answer), (93, .Arr3Int), (108, .Edit), (110, .Op), (112, .Dice), (122, .Zone), (126, .Person), (128, .Window), (130, .Local), (132, .Layer), (136, .Schedule), (170, .View), (177, .Table), (201, .int), (243, .Calendar), (270, .YearRule), (279, .Transition), (286, .Date), (299, .Occurrence), (304, .occurrence), (334, .Piece), (341, .u8), (342, .u8)]
def ty (t : Nat) : Option TC := AM.look t tyL
def week_Has (fu : Nat) (p0 : List D.Window) (p1 : Int) : Option (Bool) :=
 (iterF (X := ((Int × (List D.Window × (Int × (Int × Unit)))) × Unit)) (fun L0 ((a1, (a2, (a3, (a4, _)))), _) =>
 (cnd (decide (a4 < a3))
 (join (Y := ((Int × (List D.Window × (Int × (Int × Unit)))) × Unit)) (fun ((a5, (a6, (a7, (a8, _)))), _) =>
 (L0 ((a5, (a6, (a7, ((IntKind.wrap .i64 (a8 + 1)), ())))), ()))) fun J9 =>
 (atc a2 a4 fun a10 =>
 (cnd (decide ((D.Window.From a10) ≤ a1))
 (cnd (decide (a1 < (D.Window.To a10)))
 (some true)
 (J9 ((a1, (a2, (a3, (a4, ())))), ())))
 (J9 ((a1, (a2, (a3, (a4, ())))), ())))))
 (some false))) fu ((p1, (p0, ((((List.length p0) : Nat) : Int), (0, ())))), ()))
def week_Has_g (fu : Nat) : Sig := mkSig [.one (.lst .Window), nI] [] [.one (.boo)] [] [] (Bool) (fun q => ((q, ()), ())) (fun x y => week_Has fu x.1 x.2.1)
theorem week_Has_ok (fu : Nat) : FnOK Tryz.prog 130 (week_Has_g fu) :=
 FnOK.intro (ty := ty) (E := envL []) (fu := fu) (an := .two .go (.two (.two .go (.one (.loop [(1, nI), (7, .one (.lst .Window)), (8, nI), (9, nI)] [] (.two .go (.two .go (.two (.join [(1, nI), (7, .one (.lst .Window)), (8, nI), (9, nI)] [] .go) .go)))))) .go)) (fun a b => a.1) (fun _ _ => rfl) (envL_ok (l := []) trivial) Tryz.func130 rfl rfl (fun x y => by kernel_rfl)
def civil_Weekday (fu : Nat) (p0 : Int) : Option (Int) :=
 (nzc 7 (nzc 7 (some (Int.tmod (IntKind.wrap .i64 ((Int.tmod p0 7) + 10)) 7))))
def civil_Weekday_g (fu : Nat) : Sig := mkSig [nI] [] [nI] [] [] (Int) (fun q => ((q, ()), ())) (fun x y => civil_Weekday fu x.1)
theorem civil_Weekday_ok (fu : Nat) : FnOK Tryz.prog 182 (civil_Weekday_g fu) :=
 FnOK.intro (ty := ty) (E := envL []) (fu := fu) (an := .go) (fun a b => a.1) (fun _ _ => rfl) (envL_ok (l := []) trivial) Tryz.func182 rfl rfl (fun x y => by kernel_rfl)
def week_SecondOf (fu : Nat) (p0 : D.Local) : Option (Int) :=
 (optc (civil_Weekday fu (D.Local.Day p0)) fun a0 =>
 (some (IntKind.wrap .i64 ((IntKind.wrap .i64 (a0 * 86400)) + (D.Local.Second p0)))))
def week_SecondOf_g (fu : Nat) : Sig := mkSig [.st .Local] [] [nI] [] [] (Int) (fun q => ((q, ()), ())) (fun x y => week_SecondOf fu x.1)
theorem week_SecondOf_ok (fu : Nat) : FnOK Tryz.prog 131 (week_SecondOf_g fu) :=
 FnOK.intro (ty := ty) (E := envL [(182, 0, civil_Weekday_g fu)]) (fu := fu) (an := .go) (fun a b => a.1) (fun _ _ => rfl) (envL_ok ⟨civil_Weekday_ok fu, trivial⟩) Tryz.func131 rfl rfl (fun x y => by kernel_rfl)
def zone_local (fu : Nat) (p0 : Int) : Option (D.Local) :=
 (nzc 86400 (join (Y := ((Int × (Int × Unit)) × (D.Local × Unit))) (fun ((a0, (a1, _)), (a2, _)) =>
 (some (D.Local.mk a1 (IntKind.wrap .i64 (a0 - (IntKind.wrap .i64 (a1 * 86400))))))) fun J3 =>
 (nzc 86400 (cnd (decide ((Int.tmod p0 86400) < 0))
 (J3 ((p0, ((IntKind.wrap .i64 ((IntKind.wrap .i64 (Int.tdiv p0 86400)) - 1)), ())), ((D.Local.mk 0 0), ())))
 (J3 ((p0, ((IntKind.wrap .i64 (Int.tdiv p0 86400)), ())), ((D.Local.mk 0 0), ())))))))
def zone_local_g (fu : Nat) : Sig := mkSig [nI] [] [.st .Local] [] [] (D.Local) (fun q => ((q, ()), ())) (fun x y => zone_local fu x.1)
theorem zone_local_ok (fu : Nat) : FnOK Tryz.prog 183 (zone_local_g fu) :=
 FnOK.intro (ty := ty) (E := envL []) (fu := fu) (an := .two .go (.two .go (.two (.join [(0, nI), (2, .one (.ref 1002)), (3, nI)] [(1002, .boxst .Local)] .go) .go))) (fun a b => a.1) (fun _ _ => rfl) (envL_ok (l := []) trivial) Tryz.func183 rfl rfl (fun x y => by kernel_rfl)
def zone_Table_before (fu : Nat) (p0 : D.Table) (p1 : Int) : Option (Int) :=
 (cnd (decide (p1 = 0))
 (some (D.Table.offset p0))
 (atc (D.Table.list p0) (IntKind.wrap .i64 (p1 - 1)) fun a0 =>
 (some (D.Transition.Offset a0))))
def zone_Table_before_g (fu : Nat) : Sig := mkSig [.st .Table, nI] [] [nI] [] [] (Int) (fun q => ((q, ()), ())) (fun x y => zone_Table_before fu x.1 x.2.1)
theorem zone_Table_before_ok (fu : Nat) : FnOK Tryz.prog 224 (zone_Table_before_g fu) :=
 FnOK.intro (ty := ty) (E := envL []) (fu := fu) (an := .go) (fun a b => a.1) (fun _ _ => rfl) (envL_ok (l := []) trivial) Tryz.func224 rfl rfl (fun x y => by kernel_rfl)
def zone_Table_after_1 (fu : Nat) (p0 : Int) (p1 : D.Table) (p2 : Int) : Option (Bool) :=
 (atc (D.Table.list p1) p0 fun a0 =>
 (sameC p1 p1 (sameC p2 p2 (some (decide (p2 < (D.Transition.At a0)))))))
def zone_Table_after_1_g (fu : Nat) : Sig := mkSig [nI, .one (.ref 101), .one (.ref 102)] [(101, .boxst .Table), (102, .boxst .int)] [.one (.boo)] [] [101, 102] (Bool) (fun q => ((q, ()), ())) (fun x y => zone_Table_after_1 fu x.1 y.1 y.2.1)
theorem zone_Table_after_1_ok (fu : Nat) : FnOK Tryz.prog 258 (zone_Table_after_1_g fu) :=
 FnOK.intro (ty := ty) (E := envL []) (fu := fu) (an := .go) (fun a b => a.1) (fun _ _ => rfl) (envL_ok (l := []) trivial) Tryz.func258 rfl rfl (fun x y => by kernel_rfl)
def sort_Search_1Fzone_Table_after_1 (fu : Nat) (p0 : Int) (c101 : D.Table) (c102 : Int) : Option (Int) :=
 (iterF (X := ((Int × (Int × Unit)) × (D.Table × ((Int × Unit) × Unit)))) (fun L0 ((a1, (a2, _)), (a3, ((a4, _), _))) =>
 (cnd (decide (a1 < a2))
 none
 (sameC a3 c101 (sameC a4 c102 (some a1))))) fu ((0, (p0, ())), (c101, ((c102, ()), ()))))
def sort_Search_1Fzone_Table_after_1_g (fu : Nat) : Sig := mkSig [nI, .one (.clo 258 [101, 102])] [(101, .boxst .Table), (102, .boxst .int)] [nI] [] [101, 102] (Int) (fun q => ((q, ()), ())) (fun x y => sort_Search_1Fzone_Table_after_1 fu x.1 y.1 y.2.1)
theorem sort_Search_1Fzone_Table_after_1_ok (fu : Nat) : FnOK Tryz.prog 257 (sort_Search_1Fzone_Table_after_1_g fu) :=
 FnOK.intro (ty := ty) (E := envL [(258, 0, zone_Table_after_1_g fu)]) (fu := fu) (an := .two .go (.two .go (.two (.one (.loop [(1, .one (.clo 258 [101, 102])), (5, nI), (6, nI)] [(101, .boxst .Table), (102, .box [.num .i64])] .go)) .go))) (fun a b => a.1) (fun _ _ => rfl) (envL_ok ⟨zone_Table_after_1_ok fu, trivial⟩) Tryz.func257 rfl rfl (fun x y => by kernel_rfl)
def zone_Table_after (fu : Nat) (p0 : D.Table) (p1 : Int) : Option (Int) :=
 (optc (sort_Search_1Fzone_Table_after_1 fu (((List.length (D.Table.list p0)) : Nat) : Int) p0 p1) fun a0 =>
 (some a0))
def zone_Table_after_g (fu : Nat) : Sig := mkSig [.st .Table, nI] [] [nI] [] [] (Int) (fun q => ((q, ()), ())) (fun x y => zone_Table_after fu x.1 x.2.1)
theorem zone_Table_after_ok (fu : Nat) : FnOK Tryz.prog 225 (zone_Table_after_g fu) :=
 FnOK.intro (ty := ty) (E := envL [(257, 0, sort_Search_1Fzone_Table_after_1_g fu)]) (fu := fu) (an := .go) (fun a b => a.1) (fun _ _ => rfl) (envL_ok ⟨sort_Search_1Fzone_Table_after_1_ok fu, trivial⟩) Tryz.func225 rfl rfl (fun x y => by kernel_rfl)
def zone_Table_Offset (fu : Nat) (p0 : D.Table) (p1 : Int) : Option (Int) :=
 (optc (zone_Table_after fu p0 p1) fun a0 =>
 (optc (zone_Table_before fu p0 a0) fun a1 =>
 (some a1)))
def zone_Table_Offset_g (fu : Nat) : Sig := mkSig [.st .Table, nI] [] [nI] [] [] (Int) (fun q => ((q, ()), ())) (fun x y => zone_Table_Offset fu x.1 x.2.1)
theorem zone_Table_Offset_ok (fu : Nat) : FnOK Tryz.prog 184 (zone_Table_Offset_g fu) :=
 FnOK.intro (ty := ty) (E := envL [(224, 0, zone_Table_before_g fu), (225, 0, zone_Table_after_g fu)]) (fu := fu) (an := .go) (fun a b => a.1) (fun _ _ => rfl) (envL_ok ⟨zone_Table_before_ok fu, zone_Table_after_ok fu, trivial⟩) Tryz.func184 rfl rfl (fun x y => by kernel_rfl)
def zone_Table_Local (fu : Nat) (p0 : D.Table) (p1 : Int) : Option (D.Local) :=
 (optc (zone_Table_Offset fu p0 p1) fun a0 =>
 (optc (zone_local fu (IntKind.wrap .i64 (p1 + a0))) fun a1 =>
 (some a1)))
def zone_Table_Local_g (fu : Nat) : Sig := mkSig [.st .Table, nI] [] [.st .Local] [] [] (D.Local) (fun q => ((q, ()), ())) (fun x y => zone_Table_Local fu x.1 x.2.1)
theorem zone_Table_Local_ok (fu : Nat) : FnOK Tryz.prog 133 (zone_Table_Local_g fu) :=
 FnOK.intro (ty := ty) (E := envL [(183, 0, zone_local_g fu), (184, 0, zone_Table_Offset_g fu)]) (fu := fu) (an := .go) (fun a b => a.1) (fun _ _ => rfl) (envL_ok ⟨zone_local_ok fu, zone_Table_Offset_ok fu, trivial⟩) Tryz.func133 rfl rfl (fun x y => by kernel_rfl)
def recur_step (fu : Nat) (p0 : D.Layer) : Option (Int) :=
 (cnd (decide ((D.Layer.Unit p0) = 2))
 (some (IntKind.wrap .i64 (7 * (D.Layer.Every p0))))
 (some (D.Layer.Every p0)))
def recur_step_g (fu : Nat) : Sig := mkSig [.st .Layer] [] [nI] [] [] (Int) (fun q => ((q, ()), ())) (fun x y => recur_step fu x.1)
theorem recur_step_ok (fu : Nat) : FnOK Tryz.prog 306 (recur_step_g fu) :=
 FnOK.intro (ty := ty) (E := envL []) (fu := fu) (an := .go) (fun a b => a.1) (fun _ _ => rfl) (envL_ok (l := []) trivial) Tryz.func306 rfl rfl (fun x y => by kernel_rfl)
def zone_Table_Pieces (fu : Nat) (p0 : D.Table) (p1 : Int) (p2 : Int) : Option (List D.Piece) :=
 (iterF (X := ((Int × (Int × Unit)) × (D.Table × (List D.Piece × Unit)))) (fun L0 ((a1, (a2, _)), (a3, (a4, _))) =>
 (cnd (decide (a1 < a2))
 (optc (zone_Table_after fu a3 a1) fun a5 =>
 (join (Y := (P4 × (D.Table × (List D.Piece × Unit)))) (fun ((a6, (a7, (a8, (a9, _)))), (a10, (a11, _))) =>
 (optc (zone_Table_before fu a10 a8) fun a12 =>
 (lec ((List.length a11) + (List.length ((D.Piece.mk a6 a9 a12) :: []))) 34359738368 (L0 ((a9, (a7, ())), (a10, ((a11 ++ ((D.Piece.mk a6 a9 a12) :: [])), ()))))))) fun J13 =>
 (cnd (decide (a5 < (((List.length (D.Table.list a3)) : Nat) : Int)))
 (atc (D.Table.list a3) a5 fun a14 =>
 (J13 ((a1, (a2, (a5, ((min a2 (D.Transition.At a14)), ())))), (a3, (a4, ())))))
 (J13 ((a1, (a2, (a5, (a2, ())))), (a3, (a4, ())))))))
 (some a4))) fu ((p1, (p2, ())), (p0, ([], ()))))
def zone_Table_Pieces_g (fu : Nat) : Sig := mkSig [.st .Table, nI, nI] [] [.one (.lst .Piece)] [] [] (List D.Piece) (fun q => ((q, ()), ())) (fun x y => zone_Table_Pieces fu x.1 x.2.1 x.2.2.1)
theorem zone_Table_Pieces_ok (fu : Nat) : FnOK Tryz.prog 315 (zone_Table_Pieces_g fu) :=
 FnOK.intro (ty := ty) (E := envL [(224, 0, zone_Table_before_g fu), (225, 0, zone_Table_after_g fu)]) (fu := fu) (an := .two .go (.two .go (.two (.one (.loop [(1, nI), (2, nI), (3, .one (.ref 1003)), (7, .one (.own 1038))] [(1003, .boxst .Table), (1038, .arr .Piece)] (.two .go (.one (.two .go (.two .go (.two (.join [(1, nI), (2, nI), (3, .one (.ref 1003)), (7, .one (.own 1038)), (8, nI), (9, nI)] [(1003, .boxst .Table), (1038, .arr .Piece)] .go) .go))))))) .go))) (fun a b => a.1) (fun _ _ => rfl) (envL_ok ⟨zone_Table_before_ok fu, zone_Table_after_ok fu, trivial⟩) Tryz.func315 rfl rfl (fun x y => by kernel_rfl)
def zone_seconds (fu : Nat) (p0 : D.Local) : Option (Int) :=
 (some (IntKind.wrap .i64 ((IntKind.wrap .i64 ((min (max (D.Local.Day p0) (-1048576)) 1048576) * 86400)) + (D.Local.Second p0))))
def zone_seconds_g (fu : Nat) : Sig := mkSig [.st .Local] [] [nI] [] [] (Int) (fun q => ((q, ()), ())) (fun x y => zone_seconds fu x.1)
theorem zone_seconds_ok (fu : Nat) : FnOK Tryz.prog 316 (zone_seconds_g fu) :=
 FnOK.intro (ty := ty) (E := envL []) (fu := fu) (an := .go) (fun a b => a.1) (fun _ _ => rfl) (envL_ok (l := []) trivial) Tryz.func316 rfl rfl (fun x y => by kernel_rfl)
def zone_Table_First (fu : Nat) (p0 : D.Table) (p1 : D.Local) : Option (Int × Bool) :=
 (optc (zone_Table_Pieces fu p0 0 8589934593) fun a0 =>
 (iterF (X := ((List D.Piece × (Int × (Int × Unit))) × (D.Local × Unit))) (fun L1 ((a2, (a3, (a4, _))), (a5, _)) =>
 (cnd (decide (a4 < a3))
 (atc a2 a4 fun a6 =>
 (optc (zone_seconds fu a5) fun a7 =>
 (cnd (decide ((max (D.Piece.From a6) (IntKind.wrap .i64 (a7 - (D.Piece.Offset a6)))) < (D.Piece.To a6)))
 (some ((max (D.Piece.From a6) (IntKind.wrap .i64 (a7 - (D.Piece.Offset a6)))), true))
 (L1 ((a2, (a3, ((IntKind.wrap .i64 (a4 + 1)), ()))), (a5, ()))))))
 (some (0, false)))) fu ((a0, ((((List.length a0) : Nat) : Int), (0, ()))), (p1, ()))))
def zone_Table_First_g (fu : Nat) : Sig := mkSig [.st .Table, .st .Local] [] [nI, .one (.boo)] [] [] (Int × Bool) (fun q => ((q.1, q.2, ()), ())) (fun x y => zone_Table_First fu x.1 x.2.1)
theorem zone_Table_First_ok (fu : Nat) : FnOK Tryz.prog 313 (zone_Table_First_g fu) :=
 FnOK.intro (ty := ty) (E := envL [(315, 0, zone_Table_Pieces_g fu), (316, 0, zone_seconds_g fu)]) (fu := fu) (an := .two .go (.two (.two .go (.one (.loop [(3, .one (.ref 1003)), (10, .one (.lst .Piece)), (11, nI), (12, nI)] [(1003, .boxst .Local)] .go))) .go)) (fun a b => (a.1, a.2.1)) (fun _ _ => rfl) (envL_ok ⟨zone_Table_Pieces_ok fu, zone_seconds_ok fu, trivial⟩) Tryz.func313 rfl rfl (fun x y => by kernel_rfl)
def recur_HandoverOf (fu : Nat) (p0 : D.Table) (p1 : D.Layer) (p2 : Int) : Option (Int × Bool) :=
 (cnd (decide (8589934592 < p2))
 (some (0, false))
 (cnd (decide ((D.Layer.Unit p1) ≠ 0))
 (optc (recur_step fu p1) fun a0 =>
 (optc (zone_Table_First fu p0 (D.Local.mk (IntKind.wrap .i64 ((D.Local.Day (D.Layer.Start p1)) + (IntKind.wrap .i64 (p2 * a0)))) (D.Local.Second (D.Layer.Start p1)))) fun (a1, a2) =>
 (some (a1, a2))))
 (optc (zone_Table_First fu p0 (D.Layer.Start p1)) fun (a3, a4) =>
 (cnd a4
 (cnd (decide ((IntKind.wrap .i64 (a3 + (IntKind.wrap .i64 ((IntKind.wrap .i64 (3600 * (D.Layer.Every p1))) * p2)))) ≤ 8589934592))
 (some ((IntKind.wrap .i64 (a3 + (IntKind.wrap .i64 ((IntKind.wrap .i64 (3600 * (D.Layer.Every p1))) * p2)))), true))
 (some ((IntKind.wrap .i64 (a3 + (IntKind.wrap .i64 ((IntKind.wrap .i64 (3600 * (D.Layer.Every p1))) * p2)))), false)))
 (some ((IntKind.wrap .i64 (a3 + (IntKind.wrap .i64 ((IntKind.wrap .i64 (3600 * (D.Layer.Every p1))) * p2)))), false))))))
def recur_HandoverOf_g (fu : Nat) : Sig := mkSig [.st .Table, .st .Layer, nI] [] [nI, .one (.boo)] [] [] (Int × Bool) (fun q => ((q.1, q.2, ()), ())) (fun x y => recur_HandoverOf fu x.1 x.2.1 x.2.2.1)
theorem recur_HandoverOf_ok (fu : Nat) : FnOK Tryz.prog 305 (recur_HandoverOf_g fu) :=
 FnOK.intro (ty := ty) (E := envL [(306, 0, recur_step_g fu), (313, 0, zone_Table_First_g fu)]) (fu := fu) (an := .go) (fun a b => (a.1, a.2.1)) (fun _ _ => rfl) (envL_ok ⟨recur_step_ok fu, zone_Table_First_ok fu, trivial⟩) Tryz.func305 rfl rfl (fun x y => by kernel_rfl)
def recur_ShiftOf (fu : Nat) (p0 : D.Table) (p1 : D.Layer) (p2 : Int) : Option (Int) :=
 (optc (recur_HandoverOf fu p0 p1 0) fun (a0, a1) =>
 (join (Y := ((Int × (Int × Unit)) × (D.Table × (D.Layer × Unit)))) (fun ((a2, (a3, _)), (a4, (a5, _))) =>
 (cnd (decide ((D.Layer.Unit a5) = 0))
 (nzc (IntKind.wrap .i64 (3600 * (D.Layer.Every a5))) (some (IntKind.wrap .i64 (Int.tdiv (IntKind.wrap .i64 (a2 - a3)) (IntKind.wrap .i64 (3600 * (D.Layer.Every a5)))))))
 (optc (zone_Table_Local fu a4 a2) fun a6 =>
 (optc (recur_step fu a5) fun a7 =>
 (nzc a7 (join (Y := ((Int × (Int × Unit)) × (D.Table × (D.Layer × Unit)))) (fun ((a8, (a9, _)), (a10, (a11, _))) =>
 (iterF (X := ((Int × (Int × Unit)) × (D.Table × (D.Layer × Unit)))) (fun L12 ((a13, (a14, _)), (a15, (a16, _))) =>
 (join (Y := ((Int × (Int × Unit)) × (D.Table × (D.Layer × Unit)))) (fun ((a17, (a18, _)), (a19, (a20, _))) =>
 (L12 ((a17, ((IntKind.wrap .i64 (a18 + 1)), ())), (a19, (a20, ()))))) fun J21 =>
 (optc (recur_HandoverOf fu a15 a16 (IntKind.wrap .i64 (a14 + 1))) fun (a22, a23) =>
 (cnd a23
 (cnd (decide (a13 < a22))
 (some a14)
 (J21 ((a13, (a14, ())), (a15, (a16, ())))))
 (some a14))))) fu ((a8, (a9, ())), (a10, (a11, ()))))) fun J24 =>
 (iterF (X := ((Int × (Int × Unit)) × (D.Table × (D.Layer × Unit)))) (fun L25 ((a26, (a27, _)), (a28, (a29, _))) =>
 (cnd (decide (0 < a27))
 (join (Y := ((Int × (Int × Unit)) × (D.Table × (D.Layer × Unit)))) (fun ((a30, (a31, _)), (a32, (a33, _))) =>
 (L25 ((a30, ((IntKind.wrap .i64 (a31 - 1)), ())), (a32, (a33, ()))))) fun J34 =>
 (optc (recur_HandoverOf fu a28 a29 a27) fun (a35, a36) =>
 (cnd a36
 (cnd (decide (a35 ≤ a26))
 (J24 ((a26, (a27, ())), (a28, (a29, ()))))
 (J34 ((a26, (a27, ())), (a28, (a29, ())))))
 (J34 ((a26, (a27, ())), (a28, (a29, ())))))))
 (J24 ((a26, (a27, ())), (a28, (a29, ())))))) fu ((a2, ((max 0 (IntKind.wrap .i64 (Int.tdiv (IntKind.wrap .i64 ((D.Local.Day a6) - (D.Local.Day (D.Layer.Start a5)))) a7))), ())), (a4, (a5, ())))))))))) fun J37 =>
 (cnd a1
 (cnd (decide (p2 < a0))
 (some (-1))
 (J37 ((p2, (a0, ())), (p0, (p1, ())))))
 (some (-1)))))
def recur_ShiftOf_g (fu : Nat) : Sig := mkSig [.st .Table, .st .Layer, nI] [] [nI] [] [] (Int) (fun q => ((q, ()), ())) (fun x y => recur_ShiftOf fu x.1 x.2.1 x.2.2.1)
theorem recur_ShiftOf_ok (fu : Nat) : FnOK Tryz.prog 295 (recur_ShiftOf_g fu) :=
 FnOK.intro (ty := ty) (E := envL [(133, 0, zone_Table_Local_g fu), (305, 0, recur_HandoverOf_g fu), (306, 0, recur_step_g fu)]) (fu := fu) (an := .two .go (.two .go (.two (.join [(2, nI), (3, .one (.ref 1003)), (4, .one (.ref 1004)), (7, nI)] [(1003, .boxst .Table), (1004, .boxst .Layer)] .go) (.two .go (.two .go (.two (.join [(2, nI), (3, .one (.ref 1003)), (4, .one (.ref 1004)), (9, nI)] [(1003, .boxst .Table), (1004, .boxst .Layer)] (.one (.loop [(2, nI), (3, .one (.ref 1003)), (4, .one (.ref 1004)), (9, nI)] [(1003, .boxst .Table), (1004, .boxst .Layer)] (.two .go (.one (.two (.join [(2, nI), (3, .one (.ref 1003)), (4, .one (.ref 1004)), (9, nI)] [(1003, .boxst .Table), (1004, .boxst .Layer)] .go) .go)))))) (.one (.loop [(2, nI), (3, .one (.ref 1003)), (4, .one (.ref 1004)), (9, nI)] [(1003, .boxst .Table), (1004, .boxst .Layer)] (.one (.two (.join [(2, nI), (3, .one (.ref 1003)), (4, .one (.ref 1004)), (9, nI)] [(1003, .boxst .Table), (1004, .boxst .Layer)] .go) .go)))))))))) (fun a b => a.1) (fun _ _ => rfl) (envL_ok ⟨zone_Table_Local_ok fu, recur_HandoverOf_ok fu, recur_step_ok fu, trivial⟩) Tryz.func295 rfl rfl (fun x y => by kernel_rfl)
def cmp_isNaN_int (fu : Nat) (p0 : Int) : Option (Bool) :=
 (some (decide (p0 ≠ p0)))
def cmp_isNaN_int_g (fu : Nat) : Sig := mkSig [nI] [] [.one (.boo)] [] [] (Bool) (fun q => ((q, ()), ())) (fun x y => cmp_isNaN_int fu x.1)
theorem cmp_isNaN_int_ok (fu : Nat) : FnOK Tryz.prog 200 (cmp_isNaN_int_g fu) :=
 FnOK.intro (ty := ty) (E := envL []) (fu := fu) (an := .go) (fun a b => a.1) (fun _ _ => rfl) (envL_ok (l := []) trivial) Tryz.func200 rfl rfl (fun x y => by kernel_rfl)
def cmp_Less_int (fu : Nat) (p0 : Int) (p1 : Int) : Option (Bool) :=
 (optc (cmp_isNaN_int fu p0) fun a0 =>
 (cnd a0
 (optc (cmp_isNaN_int fu p1) fun a1 =>
 (cnd a1
 (cnd (decide (p0 < p1))
 (some true)
 (some false))
 (some true)))
 (cnd (decide (p0 < p1))
 (some true)
 (some false))))
def cmp_Less_int_g (fu : Nat) : Sig := mkSig [nI, nI] [] [.one (.boo)] [] [] (Bool) (fun q => ((q, ()), ())) (fun x y => cmp_Less_int fu x.1 x.2.1)
theorem cmp_Less_int_ok (fu : Nat) : FnOK Tryz.prog 162 (cmp_Less_int_g fu) :=
 FnOK.intro (ty := ty) (E := envL [(200, 0, cmp_isNaN_int_g fu)]) (fu := fu) (an := .go) (fun a b => a.1) (fun _ _ => rfl) (envL_ok ⟨cmp_isNaN_int_ok fu, trivial⟩) Tryz.func162 rfl rfl (fun x y => by kernel_rfl)
def slices_isNaN_int (fu : Nat) (p0 : Int) : Option (Bool) :=
 (some (decide (p0 ≠ p0)))
def slices_isNaN_int_g (fu : Nat) : Sig := mkSig [nI] [] [.one (.boo)] [] [] (Bool) (fun q => ((q, ()), ())) (fun x y => slices_isNaN_int fu x.1)
theorem slices_isNaN_int_ok (fu : Nat) : FnOK Tryz.prog 307 (slices_isNaN_int_g fu) :=
 FnOK.intro (ty := ty) (E := envL []) (fu := fu) (an := .go) (fun a b => a.1) (fun _ _ => rfl) (envL_ok (l := []) trivial) Tryz.func307 rfl rfl (fun x y => by kernel_rfl)
def slices_BinarySearch_int (fu : Nat) (p0 : List Int) (p1 : Int) : Option (Int × Bool) :=
 (iterF (X := ((List Int × P4) × Unit)) (fun L0 ((a1, (a2, (a3, (a4, (a5, _))))), _) =>
 (cnd (decide (a4 < a5))
 none
 (cnd (decide (a4 < a3))
 (atc a1 a4 fun a6 =>
 (cnd (decide (a6 = a2))
 (some (a4, true))
 (atc a1 a4 fun a7 =>
 (optc (slices_isNaN_int fu a7) fun a8 =>
 (cnd a8
 (optc (slices_isNaN_int fu a2) fun a9 =>
 (cnd a9
 (some (a4, true))
 (some (a4, false))))
 (some (a4, false)))))))
 (some (a4, false))))) fu ((p0, (p1, ((((List.length p0) : Nat) : Int), (0, ((((List.length p0) : Nat) : Int), ()))))), ()))
def slices_BinarySearch_int_g (fu : Nat) : Sig := mkSig [.one (.lst .int), nI] [] [nI, .one (.boo)] [] [] (Int × Bool) (fun q => ((q.1, q.2, ()), ())) (fun x y => slices_BinarySearch_int fu x.1 x.2.1)
theorem slices_BinarySearch_int_ok (fu : Nat) : FnOK Tryz.prog 296 (slices_BinarySearch_int_g fu) :=
 FnOK.intro (ty := ty) (E := envL [(162, 0, cmp_Less_int_g fu), (307, 0, slices_isNaN_int_g fu)]) (fu := fu) (an := .two .go (.two .go (.two .go (.two (.one (.loop [(0, .one (.lst .int)), (1, nI), (6, nI), (7, nI), (8, nI)] [] .go)) .go)))) (fun a b => (a.1, a.2.1)) (fun _ _ => rfl) (envL_ok ⟨cmp_Less_int_ok fu, slices_isNaN_int_ok fu, trivial⟩) Tryz.func296 rfl rfl (fun x y => by kernel_rfl)
def duty_View_On (fu : Nat) (p0 : D.View) (p1 : D.Layer) (p2 : Int) : Option (Int × Bool) :=
 (join (Y := ((Int × Unit) × (D.View × (D.Layer × Unit)))) (fun ((a0, _), (a1, (a2, _))) =>
 (atc (D.View.tables a1) (D.Layer.Zone a2) fun a3 =>
 (optc (recur_ShiftOf fu a3 a2 a0) fun a4 =>
 (join (Y := ((Int × (Int × Unit)) × (D.View × (D.Layer × Unit)))) (fun ((a5, (a6, _)), (a7, (a8, _))) =>
 (cnd (decide ((D.Layer.Mode a8) = 0))
 (some (a6, true))
 (atc (D.Config.Calendars (D.View.Config a7)) (D.Layer.Calendar a8) fun a9 =>
 (atc (D.View.tables a7) (D.Calendar.Zone a9) fun a10 =>
 (optc (zone_Table_Local fu a10 a5) fun a11 =>
 (optc (slices_BinarySearch_int fu (D.Calendar.Days a9) (D.Local.Day a11)) fun (a12, a13) =>
 (some (a6, (decide (a13 = (decide ((D.Layer.Mode a8) = 2)))))))))))) fun J14 =>
 (cnd (decide (a4 < 0))
 (some (0, false))
 (cnd (decide (0 < (((List.length (D.Layer.Windows a2)) : Nat) : Int)))
 (optc (zone_Table_Local fu a3 a0) fun a15 =>
 (optc (week_SecondOf fu a15) fun a16 =>
 (optc (week_Has fu (D.Layer.Windows a2) a16) fun a17 =>
 (cnd a17
 (J14 ((a0, (a4, ())), (a1, (a2, ()))))
 (some (0, false))))))
 (J14 ((a0, (a4, ())), (a1, (a2, ())))))))))) fun J18 =>
 (cnd (decide (p2 < 0))
 (some (0, false))
 (cnd (decide (8589934592 < p2))
 (some (0, false))
 (J18 ((p2, ()), (p0, (p1, ())))))))
def duty_View_On_g (fu : Nat) : Sig := mkSig [.st .View, .st .Layer, nI] [] [nI, .one (.boo)] [] [] (Int × Bool) (fun q => ((q.1, q.2, ()), ())) (fun x y => duty_View_On fu x.1 x.2.1 x.2.2.1)
theorem duty_View_On_ok (fu : Nat) : FnOK Tryz.prog 283 (duty_View_On_g fu) :=
 FnOK.intro (ty := ty) (E := envL [(130, 0, week_Has_g fu), (131, 0, week_SecondOf_g fu), (133, 0, zone_Table_Local_g fu), (295, 0, recur_ShiftOf_g fu), (296, 0, slices_BinarySearch_int_g fu)]) (fu := fu) (an := .two .go (.two (.join [(2, nI), (3, .one (.ref 1003)), (4, .one (.ref 1004))] [(1003, .boxst .View), (1004, .boxst .Layer)] .go) (.two .go (.two .go (.two (.join [(2, nI), (3, .one (.ref 1003)), (4, .one (.ref 1004)), (9, nI)] [(1003, .boxst .View), (1004, .boxst .Layer)] .go) .go))))) (fun a b => (a.1, a.2.1)) (fun _ _ => rfl) (envL_ok ⟨week_Has_ok fu, week_SecondOf_ok fu, zone_Table_Local_ok fu, recur_ShiftOf_ok fu, slices_BinarySearch_int_ok fu, trivial⟩) Tryz.func283 rfl rfl (fun x y => by kernel_rfl)
def duty_View_Person (fu : Nat) (p0 : D.View) (p1 : D.Layer) (p2 : Int) : Option (Int) :=
 (optc (duty_View_On fu p0 p1 p2) fun (a0, a1) =>
 (cnd (!a1)
 (some (-1))
 (nzc (((List.length (D.Layer.Members p1)) : Nat) : Int) (atc (D.Layer.Members p1) (Int.tmod a0 (((List.length (D.Layer.Members p1)) : Nat) : Int)) fun a2 =>
 (some a2)))))
def duty_View_Person_g (fu : Nat) : Sig := mkSig [.st .View, .st .Layer, nI] [] [nI] [] [] (Int) (fun q => ((q, ()), ())) (fun x y => duty_View_Person fu x.1 x.2.1 x.2.2.1)
theorem duty_View_Person_ok (fu : Nat) : FnOK Tryz.prog 270 (duty_View_Person_g fu) :=
 FnOK.intro (ty := ty) (E := envL [(283, 0, duty_View_On_g fu)]) (fu := fu) (an := .go) (fun a b => a.1) (fun _ _ => rfl) (envL_ok ⟨duty_View_On_ok fu, trivial⟩) Tryz.func270 rfl rfl (fun x y => by kernel_rfl)
def stack_Away_1 (fu : Nat) (p0 : D.Edit) (p1 : Int) (p2 : Int) : Option (Bool) :=
 (cnd (decide ((D.Edit.Kind p0) = 0))
 (cnd (decide ((D.Edit.A p0) = p1))
 (cnd (decide ((D.Edit.From p0) ≤ p2))
 (cnd (decide (p2 < (D.Edit.To p0)))
 (sameC p1 p1 (sameC p2 p2 (some true)))
 (sameC p1 p1 (sameC p2 p2 (some false))))
 (sameC p1 p1 (sameC p2 p2 (some false))))
 (sameC p1 p1 (sameC p2 p2 (some false))))
 (sameC p1 p1 (sameC p2 p2 (some false))))
def stack_Away_1_g (fu : Nat) : Sig := mkSig [.st .Edit, .one (.ref 101), .one (.ref 102)] [(101, .boxst .int), (102, .boxst .int)] [.one (.boo)] [] [101, 102] (Bool) (fun q => ((q, ()), ())) (fun x y => stack_Away_1 fu x.1 y.1 y.2.1)
theorem stack_Away_1_ok (fu : Nat) : FnOK Tryz.prog 285 (stack_Away_1_g fu) :=
 FnOK.intro (ty := ty) (E := envL []) (fu := fu) (an := .go) (fun a b => a.1) (fun _ _ => rfl) (envL_ok (l := []) trivial) Tryz.func285 rfl rfl (fun x y => by kernel_rfl)
def slices_IndexFunc_Edit_1Fstack_Away_1 (fu : Nat) (p0 : List D.Edit) (c101 : Int) (c102 : Int) : Option (Int) :=
 (iterF (X := ((List D.Edit × (Int × (Int × Unit))) × ((Int × Unit) × ((Int × Unit) × Unit)))) (fun L0 ((a1, (a2, (a3, _))), ((a4, _), ((a5, _), _))) =>
 (cnd (decide (a3 < a2))
 (atc a1 a3 fun a6 =>
 (optc (stack_Away_1 fu a6 a4 a5) fun a7 =>
 (cnd a7
 (sameC a4 c101 (sameC a5 c102 (some a3)))
 (L0 ((a1, (a2, ((IntKind.wrap .i64 (a3 + 1)), ()))), ((a4, ()), ((a5, ()), ())))))))
 (sameC a4 c101 (sameC a5 c102 (some (-1)))))) fu ((p0, ((((List.length p0) : Nat) : Int), (0, ()))), ((c101, ()), ((c102, ()), ()))))
def slices_IndexFunc_Edit_1Fstack_Away_1_g (fu : Nat) : Sig := mkSig [.one (.lst .Edit), .one (.clo 285 [101, 102])] [(101, .boxst .int), (102, .boxst .int)] [nI] [] [101, 102] (Int) (fun q => ((q, ()), ())) (fun x y => slices_IndexFunc_Edit_1Fstack_Away_1 fu x.1 y.1 y.2.1)
theorem slices_IndexFunc_Edit_1Fstack_Away_1_ok (fu : Nat) : FnOK Tryz.prog 297 (slices_IndexFunc_Edit_1Fstack_Away_1_g fu) :=
 FnOK.intro (ty := ty) (E := envL [(285, 0, stack_Away_1_g fu)]) (fu := fu) (an := .two .go (.two (.two .go (.one (.loop [(0, .one (.lst .Edit)), (1, .one (.clo 285 [101, 102])), (7, nI), (8, nI)] [(101, .box [.num .i64]), (102, .box [.num .i64])] .go))) .go)) (fun a b => a.1) (fun _ _ => rfl) (envL_ok ⟨stack_Away_1_ok fu, trivial⟩) Tryz.func297 rfl rfl (fun x y => by kernel_rfl)
def slices_ContainsFunc_Edit_1Fstack_Away_1 (fu : Nat) (p0 : List D.Edit) (c101 : Int) (c102 : Int) : Option (Bool) :=
 (optc (slices_IndexFunc_Edit_1Fstack_Away_1 fu p0 c101 c102) fun a0 =>
 (sameC c101 c101 (sameC c102 c102 (some (decide (0 ≤ a0))))))
def slices_ContainsFunc_Edit_1Fstack_Away_1_g (fu : Nat) : Sig := mkSig [.one (.lst .Edit), .one (.clo 285 [101, 102])] [(101, .boxst .int), (102, .boxst .int)] [.one (.boo)] [] [101, 102] (Bool) (fun q => ((q, ()), ())) (fun x y => slices_ContainsFunc_Edit_1Fstack_Away_1 fu x.1 y.1 y.2.1)
theorem slices_ContainsFunc_Edit_1Fstack_Away_1_ok (fu : Nat) : FnOK Tryz.prog 284 (slices_ContainsFunc_Edit_1Fstack_Away_1_g fu) :=
 FnOK.intro (ty := ty) (E := envL [(297, 0, slices_IndexFunc_Edit_1Fstack_Away_1_g fu)]) (fu := fu) (an := .go) (fun a b => a.1) (fun _ _ => rfl) (envL_ok ⟨slices_IndexFunc_Edit_1Fstack_Away_1_ok fu, trivial⟩) Tryz.func284 rfl rfl (fun x y => by kernel_rfl)
def stack_Away (fu : Nat) (p0 : D.Schedule) (p1 : Int) (p2 : Int) : Option (Bool) :=
 (optc (slices_ContainsFunc_Edit_1Fstack_Away_1 fu (D.Schedule.Edits p0) p1 p2) fun a0 =>
 (some a0))
def stack_Away_g (fu : Nat) : Sig := mkSig [.st .Schedule, nI, nI] [] [.one (.boo)] [] [] (Bool) (fun q => ((q, ()), ())) (fun x y => stack_Away fu x.1 x.2.1 x.2.2.1)
theorem stack_Away_ok (fu : Nat) : FnOK Tryz.prog 271 (stack_Away_g fu) :=
 FnOK.intro (ty := ty) (E := envL [(284, 0, slices_ContainsFunc_Edit_1Fstack_Away_1_g fu)]) (fu := fu) (an := .go) (fun a b => a.1) (fun _ _ => rfl) (envL_ok ⟨slices_ContainsFunc_Edit_1Fstack_Away_1_ok fu, trivial⟩) Tryz.func271 rfl rfl (fun x y => by kernel_rfl)
end
end Go.Proofs.YtfhcigjkfelnfaaGreat
/-
  stack.LayerOf: a range over a function (slices.Backward), for schedules of one layer: its contract, by the kit's laws of such ranges.
-/
namespace Go.Proofs.YtfhcigjkfelnfaaGreat
open Go Go.RowKit Go.Shelf Go.Proofs AM
set_option linter.unusedVariables false
set_option linter.unusedSimpArgs false
attribute [local go_sem] Oper.semAt_some
set_option maxRecDepth 100000
set_option maxHeartbeats 400000
theorem back_in (F : Fence) (n : Nat) (h5 : F.fn 269) (hro : F.round = none) (a : Option Addr) (len cap : Nat) (w : World) :
    CallsIn F n Tryz.prog 269 #[.slice a len cap] w fun e w' => e = .returned (.func (.func 282) #[] #[.pointer (some ⟨w.heap.size, 0, none⟩)]) ∧ w' = w.alloc (.cells #[.slice a len cap] 133) := by
  refine callsIn_of_wp Tryz.func269 rfl h5 ?_ hro
  simp only [Tryz.ntmps269, List.size_toArray, List.length_cons, List.length_nil, Nat.reduceAdd, Nat.reduceSub, Array.replicate_succ, Array.replicate_zero, List.push_toArray, List.append_toArray, List.nil_append, List.cons_append]
  gi_wp2
  go_ret
  exact ⟨rfl, rfl⟩
theorem back_stops (n : Nat) (hn : 1 ≤ n) (Bs b off cap : Nat) (l1 l2 l3 l4 l5 l6 l7 l8 l9 l10 : Value) (w : World) (hBs : Bs < w.heap.size) (hb : b < w.heap.size)
    (hc : w.cell? ⟨Bs, 0, none⟩ = some (.slice (some ⟨b, off, none⟩) 1 cap))
    (c1 : w.cell? ⟨b, off, none⟩ = some l1) (c2 : w.cell? ⟨b, off + 1, none⟩ = some l2) (c3 : w.cell? ⟨b, off + 2, none⟩ = some l3) (c4 : w.cell? ⟨b, off + 3, none⟩ = some l4) (c5 : w.cell? ⟨b, off + 4, none⟩ = some l5)
    (c6 : w.cell? ⟨b, off + 5, none⟩ = some l6) (c7 : w.cell? ⟨b, off + 6, none⟩ = some l7) (c8 : w.cell? ⟨b, off + 7, none⟩ = some l8) (c9 : w.cell? ⟨b, off + 8, none⟩ = some l9) (c10 : w.cell? ⟨b, off + 9, none⟩ = some l10) :
    SeqStopsK Fence.wide n Tryz.prog 282 #[.pointer (some ⟨Bs, 0, none⟩)] (fun _ : Unit => #[Value.int .i64 0, .agg #[l1, l2, l3, l4, l5, l6, l7, l8, l9, l10]]) (fun _ _ => True) (fun ys => ys = [()]) (fun pre => pre = [()]) 1 w := by
  intro l J Jx W hW hJ hJx hY h0
  have hc' := (hW.cell (p := ⟨Bs, 0, none⟩) hBs).trans hc
  have d1 := (hW.cell (p := ⟨b, off, none⟩) hb).trans c1
  have d2 := (hW.cell (p := ⟨b, off + 1, none⟩) hb).trans c2
  have d3 := (hW.cell (p := ⟨b, off + 2, none⟩) hb).trans c3
  have d4 := (hW.cell (p := ⟨b, off + 3, none⟩) hb).trans c4
  have d5 := (hW.cell (p := ⟨b, off + 4, none⟩) hb).trans c5
  have d6 := (hW.cell (p := ⟨b, off + 5, none⟩) hb).trans c6
  have d7 := (hW.cell (p := ⟨b, off + 6, none⟩) hb).trans c7
  have d8 := (hW.cell (p := ⟨b, off + 7, none⟩) hb).trans c8
  have d9 := (hW.cell (p := ⟨b, off + 8, none⟩) hb).trans c9
  have d10 := (hW.cell (p := ⟨b, off + 9, none⟩) hb).trans c10
  obtain ⟨fn, tmps, assign, body, hy, hR⟩ := hY [] () W h0 (by simp)
  dsimp only at hy
  refine callsIn_of_wp Tryz.func282 rfl trivial ?_ rfl
  simp only [Tryz.ntmps282, List.size_toArray, List.length_cons, List.length_nil, Nat.reduceAdd, Nat.reduceSub, Array.replicate_succ, Array.replicate_zero, List.push_toArray, List.append_toArray, List.nil_append, List.cons_append]
  gi_wp2
  gi_loopw [3] (fun i wr => (i = .int .i64 0 ∧ wr = W) ∨ (i = .int .i64 (-1) ∧ J [()] wr)) (fun i _ => (intOf i + 1).toNat)
  case atStart => exact .inl ⟨by simp [wrap64], rfl⟩
  case round =>
    rcases hrel with ⟨rfl, rfl⟩ | ⟨rfl, hJ1⟩
    · gi_wp2
      refine hR.mono ?_
      rintro e W3 (⟨rfl, hJ3, _⟩ | ⟨rfl, hJx3⟩)
      · gi_wp2
        go_roundw
        case rel => exact .inr ⟨by simp [wrap64], hJ3⟩
        case measure => simp [intOf, wrap64]
      · gi_wp2
        refine bodyPost_ret (results_none rfl _ _ _) rfl ?_
        exact ⟨⟨_, rfl⟩, .inr ⟨_, rfl, hJx3⟩⟩
    · gi_wp2
      go_end0
      exact ⟨⟨_, rfl⟩, .inl ⟨_, rfl, hJ1⟩⟩
def Blk (W : World) (b : Nat) (cs : Array Value) (t : TypeId) : Prop := W.heap[b]? = some (.cells cs t (0, 0))
theorem Blk.new (W : World) (cs : Array Value) (t : TypeId) : Blk (W.alloc (.cells cs t)) W.heap.size cs t := World.alloc_heap_new W _
theorem Blk.lt {W : World} {b : Nat} {cs : Array Value} {t : TypeId} (h : Blk W b cs t) : b < W.heap.size := (Array.getElem?_eq_some_iff.1 h).1
theorem Blk.alloc {W : World} {b : Nat} {cs : Array Value} {t : TypeId} (h : Blk W b cs t) (o : Obj) : Blk (W.alloc o) b cs t := (Below.heap_alloc W o b h.lt).trans h
theorem Blk.cell {W : World} {b : Nat} {cs : Array Value} {t : TypeId} (h : Blk W b cs t) {j : Nat} {v : Value} (hj : cs[j]? = some v) : W.cell? ⟨b, j, none⟩ = some v := by
  simp [World.cell?, show W.heap[b]? = _ from h, hj]
theorem Blk.frozen {W : World} {b : Nat} {cs : Array Value} {t : TypeId} (h : Blk W b cs t) {j : Nat} : W.frozen? ⟨b, j, none⟩ = false := by simp [World.frozen?, show W.heap[b]? = _ from h]
theorem Blk.own {W W' : World} {B : Nat} {row : Option Nat} {b : Nat} {cs : Array Value} {t : TypeId} (h : Blk W b cs t) (hg : W.grownBy W' row) (hr : ∀ r, row = some r → B ≤ r ∧ ∃ o : Obj, W.heap[r]? = some o ∧ o.isCells = false) : Blk W' b cs t := by
  refine (hg.block b h.lt fun e => ?_).trans h
  obtain ⟨_, o, ho, hc⟩ := hr b e.symm
  rw [show W.heap[b]? = _ from h] at ho; cases ho; cases hc
theorem Blk.ext {W W' : World} {b : Nat} {cs : Array Value} {t : TypeId} (h : Blk W b cs t) (hx : AM.Ext (fun _ => False) W W') : Blk W' b cs t := (hx.same b h.lt id).trans h
theorem ext_own {w W W' : World} {B : Nat} {row : Option Nat} (hB : w.heap.size ≤ B) (h : AM.Ext (fun _ => False) w W) (hg : W.grownBy W' row) (hr : ∀ r, row = some r → B ≤ r ∧ ∃ o : Obj, W.heap[r]? = some o ∧ o.isCells = false) : AM.Ext (fun _ => False) w W' :=
  ⟨Nat.le_trans h.size hg.size, fun b hb _ => (hg.block b (Nat.lt_of_lt_of_le hb h.size) (fun e => by have := (hr b e.symm).1; omega)).trans (h.same b hb id), hg.os.trans h.os, hg.output.trans h.out⟩
theorem ext_alloc {w W : World} (h : AM.Ext (fun _ => False) w W) (o : Obj) : AM.Ext (fun _ => False) w (W.alloc o) :=
  ⟨Nat.le_trans h.size (by simp), fun b hb _ => (Below.heap_alloc W o b (Nat.lt_of_lt_of_le hb h.size)).trans (h.same b hb id), h.os, h.out⟩
theorem ext_trans {a b c : World} (h : AM.Ext (fun _ => False) a b) (k : AM.Ext (fun _ => False) b c) : AM.Ext (fun _ => False) a c := h.trans k fun _ _ e => e
theorem keeps_ext {W W' : World} (h : AM.Ext (fun _ => False) W W') (B : Nat) : KeepsFrom B W W' := ⟨h.size, fun k o _ hk _ => (h.same k (Array.getElem?_eq_some_iff.1 hk).1 id).trans hk⟩
structure Oth (b : Nat) (W W' : World) : Prop where
  size : W'.heap.size = W.heap.size
  same : ∀ k, k ≠ b → W'.heap[k]? = W.heap[k]?
  os : W'.os = W.os
  out : W'.output = W.output
theorem Oth.refl (b : Nat) (W : World) : Oth b W W := ⟨rfl, fun _ _ => rfl, rfl, rfl⟩
theorem Oth.trans {b : Nat} {A B C : World} (h : Oth b A B) (k : Oth b B C) : Oth b A C := ⟨k.size.trans h.size, fun i hi => (k.same i hi).trans (h.same i hi), k.os.trans h.os, k.out.trans h.out⟩
theorem Oth.set (b j : Nat) (v : Value) (W : World) : Oth b W (W.setCell ⟨b, j, none⟩ v) :=
  ⟨by simp [World.setCell], fun k hk => by simp [World.setCell, Array.getElem?_modify, Ne.symm hk], rfl, rfl⟩
theorem Oth.blk {b : Nat} {W W' : World} (h : Oth b W W') {k : Nat} {cs : Array Value} {t : TypeId} (hk : k ≠ b) (hb : Blk W k cs t) : Blk W' k cs t := (h.same k hk).trans hb
theorem Blk.set {W : World} {b : Nat} {cs : Array Value} {t : TypeId} (h : Blk W b cs t) (j : Nat) (v : Value) : Blk (W.setCell ⟨b, j, none⟩ v) b (cs.setIfInBounds j v) t := by
  have : b < W.heap.size := h.lt
  unfold Blk at h ⊢
  simp only [World.setCell, Array.getElem?_modify, h, if_true]
  rfl
theorem Blk.store {P : Program} {W : World} {b : Nat} {cs : Array Value} {t : TypeId} (h : Blk W b cs t) {j : Nat} (hj : j < cs.size) {v : Value} (hv : v.oneCell' = true) : (store ⟨b, j, none⟩ v).run P W = .ok () (W.setCell ⟨b, j, none⟩ v) := by
  rw [run_store P W _ v _ hv]
  have h1 := h.cell (j := j) (v := cs[j]) (by simp [hj])
  simp [stored, h1, h.frozen]
theorem ext_oth {w W W' : World} {b : Nat} (hB : w.heap.size ≤ b) (h : AM.Ext (fun _ => False) w W) (k : Oth b W W') : AM.Ext (fun _ => False) w W' :=
  ⟨by rw [k.size]; exact h.size, fun i hi _ => (k.same i (by omega)).trans (h.same i hi id), k.os.trans h.os, k.out.trans h.out⟩
theorem keeps_oth {W W' : World} {o : Obj} (B : Nat) (k : Oth W.heap.size (W.alloc o) W') : KeepsFrom B W W' :=
  ⟨by rw [k.size]; simp, fun i x _ hi _ => by
    have hl := (Array.getElem?_eq_some_iff.1 hi).1
    exact (k.same i (by omega)).trans ((Below.heap_alloc W o i hl).trans hi)⟩
theorem store1 {P : Program} {A0 W : World} {b : Nat} {cs cs' : Array Value} {t : TypeId} (h : Blk W b cs t) (ho : Oth b A0 W) {j : Nat} {v : Value} (hj : j < cs.size) (hc : cs.setIfInBounds j v = cs') (hv : v.oneCell' = true) :
    ∃ W', (store ⟨b, j, none⟩ v).run P W = .ok () W' ∧ Oth b A0 W' ∧ Blk W' b cs' t := ⟨_, h.store hj hv, ho.trans (Oth.set b j v W), hc ▸ h.set j v⟩
theorem store10 (P : Program) (W : World) (l1 l2 l3 l4 l5 l6 l7 l8 l9 l10 : Value) (o1 : l1.oneCell' = true) (o2 : l2.oneCell' = true) (o3 : l3.oneCell' = true) (o4 : l4.oneCell' = true) (o5 : l5.oneCell' = true) (o6 : l6.oneCell' = true) (o7 : l7.oneCell' = true) (o8 : l8.oneCell' = true) (o9 : l9.oneCell' = true) (o10 : l10.oneCell' = true) :
    ∃ W3, ((Sem.run P (store ⟨W.heap.size, 0, none⟩ l1) (W.alloc (.cells #[.string { data := #[] }, .int .i64 0, .int .i64 0, .int .i64 0, .int .i64 0, .int .i64 0, .slice none 0 0, .slice none 0 0, .int .i64 0, .int .i64 0] 132))).andThen fun a w' => (Sem.run P (store ⟨W.heap.size, 1, none⟩ l2) w').andThen fun a w' => (Sem.run P (store ⟨W.heap.size, 2, none⟩ l3) w').andThen fun a w' => (Sem.run P (store ⟨W.heap.size, 3, none⟩ l4) w').andThen fun a w' => (Sem.run P (store ⟨W.heap.size, 4, none⟩ l5) w').andThen fun a w' => (Sem.run P (store ⟨W.heap.size, 5, none⟩ l6) w').andThen fun a w' => (Sem.run P (store ⟨W.heap.size, 6, none⟩ l7) w').andThen fun a w' => (Sem.run P (store ⟨W.heap.size, 7, none⟩ l8) w').andThen fun a w' => (Sem.run P (store ⟨W.heap.size, 8, none⟩ l9) w').andThen fun a w' => (Sem.run P (store ⟨W.heap.size, 9, none⟩ l10) w')) = .ok () W3 ∧ Oth W.heap.size (W.alloc (.cells #[.string { data := #[] }, .int .i64 0, .int .i64 0, .int .i64 0, .int .i64 0, .int .i64 0, .slice none 0 0, .slice none 0 0, .int .i64 0, .int .i64 0] 132)) W3 ∧ Blk W3 W.heap.size #[l1, l2, l3, l4, l5, l6, l7, l8, l9, l10] 132 := by
  have q0 := Blk.new W #[.string { data := #[] }, .int .i64 0, .int .i64 0, .int .i64 0, .int .i64 0, .int .i64 0, .slice none 0 0, .slice none 0 0, .int .i64 0, .int .i64 0] 132
  have t0 := Oth.refl W.heap.size (W.alloc (.cells #[.string { data := #[] }, .int .i64 0, .int .i64 0, .int .i64 0, .int .i64 0, .int .i64 0, .slice none 0 0, .slice none 0 0, .int .i64 0, .int .i64 0] 132))
  obtain ⟨A1, r1, t1, q1⟩ := store1 (P := P) (cs' := #[l1, .int .i64 0, .int .i64 0, .int .i64 0, .int .i64 0, .int .i64 0, .slice none 0 0, .slice none 0 0, .int .i64 0, .int .i64 0]) q0 t0 (j := 0) (v := l1) (by simp) rfl o1
  rw [r1, Result.andThen]
  obtain ⟨A2, r2, t2, q2⟩ := store1 (P := P) (cs' := #[l1, l2, .int .i64 0, .int .i64 0, .int .i64 0, .int .i64 0, .slice none 0 0, .slice none 0 0, .int .i64 0, .int .i64 0]) q1 t1 (j := 1) (v := l2) (by simp) rfl o2
  rw [r2, Result.andThen]
  obtain ⟨A3, r3, t3, q3⟩ := store1 (P := P) (cs' := #[l1, l2, l3, .int .i64 0, .int .i64 0, .int .i64 0, .slice none 0 0, .slice none 0 0, .int .i64 0, .int .i64 0]) q2 t2 (j := 2) (v := l3) (by simp) rfl o3
  rw [r3, Result.andThen]
  obtain ⟨A4, r4, t4, q4⟩ := store1 (P := P) (cs' := #[l1, l2, l3, l4, .int .i64 0, .int .i64 0, .slice none 0 0, .slice none 0 0, .int .i64 0, .int .i64 0]) q3 t3 (j := 3) (v := l4) (by simp) rfl o4
  rw [r4, Result.andThen]
  obtain ⟨A5, r5, t5, q5⟩ := store1 (P := P) (cs' := #[l1, l2, l3, l4, l5, .int .i64 0, .slice none 0 0, .slice none 0 0, .int .i64 0, .int .i64 0]) q4 t4 (j := 4) (v := l5) (by simp) rfl o5
  rw [r5, Result.andThen]
  obtain ⟨A6, r6, t6, q6⟩ := store1 (P := P) (cs' := #[l1, l2, l3, l4, l5, l6, .slice none 0 0, .slice none 0 0, .int .i64 0, .int .i64 0]) q5 t5 (j := 5) (v := l6) (by simp) rfl o6
  rw [r6, Result.andThen]
  obtain ⟨A7, r7, t7, q7⟩ := store1 (P := P) (cs' := #[l1, l2, l3, l4, l5, l6, l7, .slice none 0 0, .int .i64 0, .int .i64 0]) q6 t6 (j := 6) (v := l7) (by simp) rfl o7
  rw [r7, Result.andThen]
  obtain ⟨A8, r8, t8, q8⟩ := store1 (P := P) (cs' := #[l1, l2, l3, l4, l5, l6, l7, l8, .int .i64 0, .int .i64 0]) q7 t7 (j := 7) (v := l8) (by simp) rfl o8
  rw [r8, Result.andThen]
  obtain ⟨A9, r9, t9, q9⟩ := store1 (P := P) (cs' := #[l1, l2, l3, l4, l5, l6, l7, l8, l9, .int .i64 0]) q8 t8 (j := 8) (v := l9) (by simp) rfl o9
  rw [r9, Result.andThen]
  obtain ⟨A10, r10, t10, q10⟩ := store1 (P := P) (cs' := #[l1, l2, l3, l4, l5, l6, l7, l8, l9, l10]) q9 t9 (j := 9) (v := l10) (by simp) rfl o10
  rw [r10]
  exact ⟨A10, rfl, t10, q10⟩
theorem lay_in (n : Nat) (hn : 3 ≤ n) (v1 v2 v3 v4 v5 s1 s3 : Value) (b off cap : Nat) (t : Int) (l1 l2 l3 l4 l5 l6 l7 l8 l9 l10 : Value) (w : World) (hb : b < w.heap.size)
    (c1 : w.cell? ⟨b, off, none⟩ = some l1) (c2 : w.cell? ⟨b, off + 1, none⟩ = some l2) (c3 : w.cell? ⟨b, off + 2, none⟩ = some l3) (c4 : w.cell? ⟨b, off + 3, none⟩ = some l4) (c5 : w.cell? ⟨b, off + 4, none⟩ = some l5) (c6 : w.cell? ⟨b, off + 5, none⟩ = some l6) (c7 : w.cell? ⟨b, off + 6, none⟩ = some l7) (c8 : w.cell? ⟨b, off + 7, none⟩ = some l8) (c9 : w.cell? ⟨b, off + 8, none⟩ = some l9) (c10 : w.cell? ⟨b, off + 9, none⟩ = some l10)
    (o1 : l1.oneCell' = true) (o2 : l2.oneCell' = true) (o3 : l3.oneCell' = true) (o4 : l4.oneCell' = true) (o5 : l5.oneCell' = true) (o6 : l6.oneCell' = true) (o7 : l7.oneCell' = true) (o8 : l8.oneCell' = true) (o9 : l9.oneCell' = true) (o10 : l10.oneCell' = true)
    (p : Int) (hP : ∀ W, AM.Ext (fun _ => False) w W → Calls Tryz.prog 270 #[.agg #[v1, v2, v3, v4, v5], .agg #[l1, l2, l3, l4, l5, l6, l7, l8, l9, l10], .int .i64 t] W fun e W' => e = .returned (.int .i64 p) ∧ AM.Ext (fun _ => False) W W')
    (aw : Bool) (hA : 0 ≤ p → ∀ W, AM.Ext (fun _ => False) w W → Calls Tryz.prog 271 #[.agg #[s1, .slice (some ⟨b, off, none⟩) 1 cap, s3], .int .i64 p, .int .i64 t] W fun e W' => e = .returned (.bool aw) ∧ AM.Ext (fun _ => False) W W') :
    CallsIn Fence.wide n Tryz.prog 253 #[.agg #[v1, v2, v3, v4, v5], .agg #[s1, .slice (some ⟨b, off, none⟩) 1 cap, s3], .int .i64 t] w fun e w' =>
      e = .returned (.tuple #[.int .i64 (if p < 0 ∨ aw = true then -1 else 0), .int .i64 (if p < 0 ∨ aw = true then -1 else p)]) ∧ AM.Ext (fun _ => False) w w' := by
  have h1 : 1 ≤ n := by omega
  refine callsIn_of_wp_marks Tryz.func253 rfl trivial ?_ rfl
  simp only [Tryz.ntmps253, List.size_toArray, List.length_cons, List.length_nil, Nat.reduceAdd, Nat.reduceSub, Array.replicate_succ, Array.replicate_zero, List.push_toArray, List.append_toArray, List.nil_append, List.cons_append]
  gi_wp2
  refine wpIn_wide.2 (wp_scope_straight ((wpIn_wide (n := n)).1 ?_))
  refine wpIn_seq (wpIn_label ?_)
  show Code.wpIn _ _ _ _ _ _ _
  gi_wp2_with (refine ⟨trivial, ?_⟩; gi_at_call 269; refine (back_in Fence.wide (n - 1) trivial rfl _ _ _ _).mono ?_; rintro e w' ⟨rfl, rfl⟩)
  have e0 := ext_alloc (ext_alloc (ext_alloc (ext_alloc (ext_alloc (ext_alloc (AM.Ext.refl (fun _ => False) w) (.cells #[v1, v2, v3, v4, v5] 170)) (.cells #[s1, .slice (some ⟨b, off, none⟩) 1 cap, s3] 136)) (.cells #[.int .i64 t] 3)) (.cells #[.int .i64 0] 3)) (.cells #[.int .i64 0] 3)) (.cells #[.slice (some ⟨b, off, none⟩) 1 cap] 133)
  have b0 := ((((((Blk.new w #[v1, v2, v3, v4, v5] 170).alloc (.cells #[s1, .slice (some ⟨b, off, none⟩) 1 cap, s3] 136)).alloc (.cells #[.int .i64 t] 3)).alloc (.cells #[.int .i64 0] 3)).alloc (.cells #[.int .i64 0] 3)).alloc (.cells #[.slice (some ⟨b, off, none⟩) 1 cap] 133))
  have b1 := (((((Blk.new (w.alloc (.cells #[v1, v2, v3, v4, v5] 170)) #[s1, .slice (some ⟨b, off, none⟩) 1 cap, s3] 136).alloc (.cells #[.int .i64 t] 3)).alloc (.cells #[.int .i64 0] 3)).alloc (.cells #[.int .i64 0] 3)).alloc (.cells #[.slice (some ⟨b, off, none⟩) 1 cap] 133))
  have b2 := ((((Blk.new ((w.alloc (.cells #[v1, v2, v3, v4, v5] 170)).alloc (.cells #[s1, .slice (some ⟨b, off, none⟩) 1 cap, s3] 136)) #[.int .i64 t] 3).alloc (.cells #[.int .i64 0] 3)).alloc (.cells #[.int .i64 0] 3)).alloc (.cells #[.slice (some ⟨b, off, none⟩) 1 cap] 133))
  have b3 := (((Blk.new (((w.alloc (.cells #[v1, v2, v3, v4, v5] 170)).alloc (.cells #[s1, .slice (some ⟨b, off, none⟩) 1 cap, s3] 136)).alloc (.cells #[.int .i64 t] 3)) #[.int .i64 0] 3).alloc (.cells #[.int .i64 0] 3)).alloc (.cells #[.slice (some ⟨b, off, none⟩) 1 cap] 133))
  have b4 := ((Blk.new ((((w.alloc (.cells #[v1, v2, v3, v4, v5] 170)).alloc (.cells #[s1, .slice (some ⟨b, off, none⟩) 1 cap, s3] 136)).alloc (.cells #[.int .i64 t] 3)).alloc (.cells #[.int .i64 0] 3)) #[.int .i64 0] 3).alloc (.cells #[.slice (some ⟨b, off, none⟩) 1 cap] 133))
  have b5 := (Blk.new (((((w.alloc (.cells #[v1, v2, v3, v4, v5] 170)).alloc (.cells #[s1, .slice (some ⟨b, off, none⟩) 1 cap, s3] 136)).alloc (.cells #[.int .i64 t] 3)).alloc (.cells #[.int .i64 0] 3)).alloc (.cells #[.int .i64 0] 3)) #[.slice (some ⟨b, off, none⟩) 1 cap] 133)
  simp only [World.size_alloc] at b1 b2 b3 b4 b5
  have hz : ((((((w.alloc (.cells #[v1, v2, v3, v4, v5] 170)).alloc (.cells #[s1, .slice (some ⟨b, off, none⟩) 1 cap, s3] 136)).alloc (.cells #[.int .i64 t] 3)).alloc (.cells #[.int .i64 0] 3)).alloc (.cells #[.int .i64 0] 3)).alloc (.cells #[.slice (some ⟨b, off, none⟩) 1 cap] 133)).heap.size = w.heap.size + 6 := by simp
  obtain ⟨W0, hW0⟩ : ∃ W0, ((((((w.alloc (.cells #[v1, v2, v3, v4, v5] 170)).alloc (.cells #[s1, .slice (some ⟨b, off, none⟩) 1 cap, s3] 136)).alloc (.cells #[.int .i64 t] 3)).alloc (.cells #[.int .i64 0] 3)).alloc (.cells #[.int .i64 0] 3)).alloc (.cells #[.slice (some ⟨b, off, none⟩) 1 cap] 133)) = W0 := ⟨_, rfl⟩
  rw [hW0] at e0 b0 b1 b2 b3 b4 b5 hz ⊢
  have c0 : ∀ o, W0.cell? ⟨b, o, none⟩ = w.cell? ⟨b, o, none⟩ := fun o => World.cell?_of_block (e0.same b hb id)
  refine wpIn_rangeFunc_ownH rfl h1 (gf := 282) (lb := #[.pointer (some ⟨w.heap.size + 1 + 1 + 1 + 1 + 1, 0, none⟩)]) rfl trivial (enters_of Tryz.func282 (by kernel_rfl) rfl)
    (back_stops (n - 1) (by omega) (w.heap.size + 1 + 1 + 1 + 1 + 1) b off cap l1 l2 l3 l4 l5 l6 l7 l8 l9 l10 W0 b5.lt (by omega) (b5.cell rfl) ((c0 _).trans c1) ((c0 _).trans c2) ((c0 _).trans c3) ((c0 _).trans c4) ((c0 _).trans c5) ((c0 _).trans c6) ((c0 _).trans c7) ((c0 _).trans c8) ((c0 _).trans c9) ((c0 _).trans c10)) (fun _ _ => trivial) (fun _ _ _ _ _ _ _ _ => trivial) (Below.refl _ _) (fun _ => rfl)
    (fun pre W => ((Blk W w.heap.size #[v1, v2, v3, v4, v5] 170 ∧ Blk W (w.heap.size + 1) #[s1, .slice (some ⟨b, off, none⟩) 1 cap, s3] 136 ∧ Blk W (w.heap.size + 1 + 1) #[.int .i64 t] 3 ∧ Blk W (w.heap.size + 1 + 1 + 1) #[.int .i64 0] 3 ∧ Blk W (w.heap.size + 1 + 1 + 1 + 1) #[.int .i64 0] 3) ∧ AM.Ext (fun _ => False) w W) ∧ (pre = [] ∨ (p < 0 ∨ aw = true)))
    (fun c pre W => c = .ret ∧ ¬ (p < 0 ∨ aw = true) ∧ Blk W (w.heap.size + 1 + 1 + 1) #[.int .i64 0] 3 ∧ Blk W (w.heap.size + 1 + 1 + 1 + 1) #[.int .i64 p] 3 ∧ AM.Ext (fun _ => False) w W)
    (fun s A B row hs hg hr => ⟨⟨⟨hs.1.1.1.own hg hr, hs.1.1.2.1.own hg hr, hs.1.1.2.2.1.own hg hr, hs.1.1.2.2.2.1.own hg hr, hs.1.1.2.2.2.2.own hg hr⟩, ext_own (by omega) hs.1.2 hg hr⟩, hs.2⟩)
    (fun c s A B row hs hg hr => ⟨hs.1, hs.2.1, hs.2.2.1.own hg hr, hs.2.2.2.1.own hg hr, ext_own (by omega) hs.2.2.2.2 hg hr⟩)
    ⟨⟨⟨b0, b1, b2, b3, b4⟩, e0⟩, .inl rfl⟩
    (fun _ a' W => ∃ Bx, w.heap.size + 1 + 1 + 1 + 1 < Bx ∧ Blk W Bx #[l1, l2, l3, l4, l5, l6, l7, l8, l9, l10] 132 ∧ a' = { tmps := #[.agg #[v1, v2, v3, v4, v5], .agg #[s1, .slice (some ⟨b, off, none⟩) 1 cap, s3], .int .i64 t, .pointer (some ⟨w.heap.size, 0, none⟩), .pointer (some ⟨w.heap.size + 1, 0, none⟩), .pointer (some ⟨w.heap.size + 1 + 1, 0, none⟩), .pointer (some ⟨w.heap.size + 1 + 1 + 1, 0, none⟩), .pointer (some ⟨w.heap.size + 1 + 1 + 1 + 1, 0, none⟩),
      .int .i64 0, .pointer (some ⟨Bx, 0, none⟩), undef, .pointer (some ⟨w.heap.size + 1, 1, none⟩), .slice (some ⟨b, off, none⟩) 1 cap, .func (.func 282) #[] #[.pointer (some ⟨w.heap.size + 1 + 1 + 1 + 1 + 1, 0, none⟩)], .int .i64 0, .agg #[l1, l2, l3, l4, l5, l6, l7, l8, l9, l10], undef, undef, undef, undef, undef, undef, undef, undef, undef, undef, undef, undef, undef], defers := [] })
    (fun x a' s A B row hs hg hr => by obtain ⟨Bx, g1, g2, g3⟩ := hs; exact ⟨Bx, g1, g2.own hg hr, g3⟩) ?assign ?body ?done ?stop
  case assign =>
    rintro l pre x W K ⟨⟨⟨i0, i1, i2, i3, i4⟩, ie⟩, hp⟩ hK
    gi_wp2
    obtain ⟨W3, hW3, tt, q10⟩ := store10 Tryz.prog W l1 l2 l3 l4 l5 l6 l7 l8 l9 l10 o1 o2 o3 o4 o5 o6 o7 o8 o9 o10
    rw [hW3, Result.andThen]
    gi_wp2
    have hi4 := i4.lt
    exact hK _ _ (keeps_oth _ tt) trivial ⟨⟨⟨tt.blk (by omega) (i0.alloc _), tt.blk (by omega) (i1.alloc _), tt.blk (by omega) (i2.alloc _), tt.blk (by omega) (i3.alloc _), tt.blk (by omega) (i4.alloc _)⟩, ext_oth (by omega) (ext_alloc ie _) tt⟩, hp⟩ ⟨W.heap.size, hi4, q10, rfl⟩
  case body =>
    rintro l pre x a' W hl hlp ⟨⟨⟨i0, i1, i2, i3, i4⟩, ie⟩, hp⟩ ⟨Bx, hBx, bx, rfl⟩ hlen
    have a1 := i0.cell (j := 0) rfl
    have a2 := i0.cell (j := 1) rfl
    have a3 := i0.cell (j := 2) rfl
    have a4 := i0.cell (j := 3) rfl
    have a5 := i0.cell (j := 4) rfl
    have g1 := i1.cell (j := 0) rfl
    have g2 := i1.cell (j := 1) rfl
    have g3 := i1.cell (j := 2) rfl
    have g4 := i2.cell (j := 0) rfl
    have m1 := bx.cell (j := 0) rfl
    have m2 := bx.cell (j := 1) rfl
    have m3 := bx.cell (j := 2) rfl
    have m4 := bx.cell (j := 3) rfl
    have m5 := bx.cell (j := 4) rfl
    have m6 := bx.cell (j := 5) rfl
    have m7 := bx.cell (j := 6) rfl
    have m8 := bx.cell (j := 7) rfl
    have m9 := bx.cell (j := 8) rfl
    have m10 := bx.cell (j := 9) rfl
    have hmx : Tryz.prog.follows .mixedOrders = true := by kernel_rfl
    gi_wp2
    refine ⟨trivial, fun h => absurd h (by decide), ?_⟩
    refine (CallsIn.inRound l (callsIn_wide.2 (hP W ie))).mono ?_
    rintro e W4 ⟨rfl, hx⟩
    have f0 := i0.ext hx
    have f1 := i1.ext hx
    have f2 := i2.ext hx
    have f3 := i3.ext hx
    have f4 := i4.ext hx
    have fe := ext_trans ie hx
    have g1 := f1.cell (j := 0) rfl
    have g2 := f1.cell (j := 1) rfl
    have g3 := f1.cell (j := 2) rfl
    have g4 := f2.cell (j := 0) rfl
    dsimp only
    gi_wp2
    · exact ⟨keeps_ext hx _, trivial, ⟨⟨⟨f0, f1, f2, f3, f4⟩, fe⟩, .inr (.inl (by assumption))⟩⟩
    · refine ⟨trivial, fun h => absurd h (by decide), ?_⟩
      have hp0 : 0 ≤ p := by assumption
      refine (CallsIn.inRound l (callsIn_wide.2 (hA hp0 W4 fe))).mono ?_
      rintro e W5 ⟨rfl, hy⟩
      have k0 := f0.ext hy
      have k1 := f1.ext hy
      have k2 := f2.ext hy
      have k3 := f3.ext hy
      have k4 := f4.ext hy
      have ke := ext_trans fe hy
      have r1 := k3.cell (j := 0) rfl
      have r2 := k4.cell (j := 0) rfl
      have r3 := k3.frozen (j := 0)
      have r4 := k4.frozen (j := 0)
      dsimp only
      gi_wp2
      · have hno : ¬ (p < 0 ∨ aw = true) := fun h => h.elim (fun h => by omega) (fun h => by subst h; simp_all)
        refine ⟨(keeps_ext (ext_trans hx hy) _).trans ⟨by simp [World.setCell], fun i o _ hi hc => ?_⟩, rfl, hno, (Oth.set (w.heap.size + 1 + 1 + 1 + 1) 0 (.int .i64 p) _).blk (by omega) (k3.set 0 (.int .i64 0)), ((Oth.set (w.heap.size + 1 + 1 + 1) 0 (.int .i64 0) W5).blk (by omega) k4).set 0 (.int .i64 p),
          ext_oth (by omega) (ext_oth (by omega) ke (Oth.set (w.heap.size + 1 + 1 + 1) 0 (.int .i64 0) W5)) (Oth.set (w.heap.size + 1 + 1 + 1 + 1) 0 (.int .i64 p) _)⟩
        have n3 : i ≠ w.heap.size + 1 + 1 + 1 := fun e => by subst e; rw [show W5.heap[w.heap.size + 1 + 1 + 1]? = _ from k3] at hi; cases hi; cases hc
        have n4 : i ≠ w.heap.size + 1 + 1 + 1 + 1 := fun e => by subst e; rw [show W5.heap[w.heap.size + 1 + 1 + 1 + 1]? = _ from k4] at hi; cases hi; cases hc
        exact ((Oth.set (w.heap.size + 1 + 1 + 1 + 1) 0 (.int .i64 p) _).same i n4).trans (((Oth.set (w.heap.size + 1 + 1 + 1) 0 (.int .i64 0) W5).same i n3).trans hi)
      · have hyes : aw = true := by cases aw <;> simp_all
        exact ⟨keeps_ext (ext_trans hx hy) _, trivial, ⟨⟨⟨k0, k1, k2, k3, k4⟩, ke⟩, .inr (.inr hyes)⟩⟩
  case done =>
    rintro D xs W hD rfl ⟨⟨⟨i0, i1, i2, i3, i4⟩, ie⟩, hp⟩ hKD
    have r1 := i3.cell (j := 0) rfl
    have r2 := i4.cell (j := 0) rfl
    have r3 := i3.frozen (j := 0)
    have r4 := i4.frozen (j := 0)
    gi_wp2
    have hp' : p < 0 ∨ aw = true := hp.resolve_left (by simp)
    have m3 : Blk ((W.setCell ⟨w.heap.size + 1 + 1 + 1, 0, none⟩ (.int .i64 (-1))).setCell ⟨w.heap.size + 1 + 1 + 1 + 1, 0, none⟩ (.int .i64 (-1))) (w.heap.size + 1 + 1 + 1) #[.int .i64 (-1)] 3 := (Oth.set (w.heap.size + 1 + 1 + 1 + 1) 0 (.int .i64 (-1)) _).blk (by omega) (i3.set 0 (.int .i64 (-1)))
    have m4 : Blk ((W.setCell ⟨w.heap.size + 1 + 1 + 1, 0, none⟩ (.int .i64 (-1))).setCell ⟨w.heap.size + 1 + 1 + 1 + 1, 0, none⟩ (.int .i64 (-1))) (w.heap.size + 1 + 1 + 1 + 1) #[.int .i64 (-1)] 3 := ((Oth.set (w.heap.size + 1 + 1 + 1) 0 (.int .i64 (-1)) W).blk (by omega) i4).set 0 (.int .i64 (-1))
    have me := ext_oth (by omega) (ext_oth (by omega) ie (Oth.set (w.heap.size + 1 + 1 + 1) 0 (.int .i64 (-1)) W)) (Oth.set (w.heap.size + 1 + 1 + 1 + 1) 0 (.int .i64 (-1)) _)
    have hKD' := ((Oth.set (w.heap.size + 1 + 1 + 1 + 1) 0 (.int .i64 (-1)) (W.setCell ⟨w.heap.size + 1 + 1 + 1, 0, none⟩ (.int .i64 (-1)))).same D (by omega)).trans (((Oth.set (w.heap.size + 1 + 1 + 1) 0 (.int .i64 (-1)) W).same D (by omega)).trans hKD)
    have u3 := m3.own (grownBy_putObj' _ D (.deferred none)) (B := W0.heap.size) (fun r e => by cases e; exact ⟨hD, _, hKD', rfl⟩)
    have u4 := m4.own (grownBy_putObj' _ D (.deferred none)) (B := W0.heap.size) (fun r e => by cases e; exact ⟨hD, _, hKD', rfl⟩)
    have ue := ext_own (B := W0.heap.size) (by omega) me (grownBy_putObj' _ D (.deferred none)) (fun r e => by cases e; exact ⟨hD, _, hKD', rfl⟩)
    have y3 := u3.cell (j := 0) rfl
    have y4 := u4.cell (j := 0) rfl
    show bodyPostM _ _ _ _ _ Exit.ret _ _
    refine ⟨by simp, .inl ⟨_, _, rfl, run_takeDeferred hKD', ?_⟩⟩
    refine ⟨.tuple #[.int .i64 (-1), .int .i64 (-1)], ?_, by rw [if_pos hp', if_pos hp'], ue⟩
    simp [results, Tryz.f253, go_sem, y3, y4]
  case stop =>
    rintro D c pre W hD rfl ⟨rfl, hno, i3, i4, ie⟩ hKD
    gi_wp2
    have m3 := i3
    have m4 := i4
    have me := ie
    have hKD' := hKD
    have u3 := m3.own (grownBy_putObj' _ D (.deferred none)) (B := W0.heap.size) (fun r e => by cases e; exact ⟨hD, _, hKD', rfl⟩)
    have u4 := m4.own (grownBy_putObj' _ D (.deferred none)) (B := W0.heap.size) (fun r e => by cases e; exact ⟨hD, _, hKD', rfl⟩)
    have ue := ext_own (B := W0.heap.size) (by omega) me (grownBy_putObj' _ D (.deferred none)) (fun r e => by cases e; exact ⟨hD, _, hKD', rfl⟩)
    have y3 := u3.cell (j := 0) rfl
    have y4 := u4.cell (j := 0) rfl
    show bodyPostM _ _ _ _ _ Exit.ret _ _
    refine ⟨by simp, .inl ⟨_, _, rfl, run_takeDeferred hKD', ?_⟩⟩
    refine ⟨.tuple #[.int .i64 0, .int .i64 p], ?_, by rw [if_neg hno, if_neg hno], ue⟩
    simp [results, Tryz.f253, go_sem, y3, y4]
theorem pv_at {ρ : Name → AM.Loc} {H : Heap} {M : Nat → Prop} {W : World} {x : PV} {xs : List AV} {us : List Value} (h : AV.Rs ρ H M W (.p x :: xs) us) : ∃ u us', us = u :: us' ∧ PV.R M W x u ∧ AV.Rs ρ H M W xs us' := by
  simp only [AV.Rs] at h
  obtain ⟨u, us', h1, h2, h3, h4⟩ := h
  simp only [AV.R] at h3
  exact ⟨u, us', h1, h3, h4⟩
theorem pv_put {ρ : Name → AM.Loc} {H : Heap} {M : Nat → Prop} {W : World} {x : PV} {xs : List AV} {u : Value} {us : List Value} (h : PV.R M W x u) (hs : AV.Rs ρ H M W xs us) : AV.Rs ρ H M W (.p x :: xs) (u :: us) := by
  simp only [AV.Rs, AV.R]
  exact ⟨u, us, rfl, h.flat, h, hs⟩
theorem cell_at {M : Nat → Prop} {W : World} {b off : Nat} {x : PV} {xs : List PV} (h : PV.Cells M W b off (x :: xs)) : ∃ u, W.cell? ⟨b, off, none⟩ = some u ∧ PV.R M W x u ∧ PV.Cells M W b (off + 1) xs := by
  simp only [PV.Cells] at h
  obtain ⟨⟨u, h1, h2⟩, h3⟩ := h
  exact ⟨u, h1, h2, h3⟩
noncomputable section
def stack_LayerOf (fu : Nat) (p0 : D.View) (p1 : D.Schedule) (p2 : Int) : Option (Int × Int) :=
  match p1.Layers with
  | [l] => optc (duty_View_Person fu p0 l p2) fun p => cnd (decide (p < 0)) (some (-1, -1)) (optc (stack_Away fu p1 p p2) fun a => cnd a (some (-1, -1)) (some (0, p)))
  | _ => none
def stack_LayerOf_g (fu : Nat) : Sig := mkSig [.st .View, .st .Schedule, .one (.num .i64)] [] [.one (.num .i64), .one (.num .i64)] [] [] (Int × Int) (fun q => ((q.1, q.2, ()), ())) (fun x y => stack_LayerOf fu x.1 x.2.1 x.2.2.1)
theorem spec_call {P : Program} {k : FuncId} {args : List AV} {v : AV} (h : SpecIs P k args [] v []) {G w W : World} {ρ : Name → AM.Loc} {M : Nat → Prop} {us : List Value} (hG : AM.Ground G w (fun b => ∃ n o, AM.look n ([] : List (Name × AO)) = some o ∧ (ρ n).blk = some b)) (hM : ∀ b, M b → b < w.heap.size) (hx : Ext (fun _ => False) w W) (ha : AV.Ts ρ (lookH []) M W args us) :
    Calls P k us.toArray W fun e W' => ∃ u, e = .returned u ∧ (∃ ρ' M', v.R ρ' (lookH []) M' W' u) ∧ Ext (fun _ => False) W W' := by
  refine (h G ρ M W us ⟨hG.laid, Nat.le_trans hG.size hx.size, fun b hb => (hx.same b (Nat.lt_of_lt_of_le hb hG.size) id).trans (hG.same b hb), hG.out⟩ (fun b hb => Nat.lt_of_lt_of_le (hM b hb) hx.size) ha (fun n o hn => by simp [AM.look] at hn) (fun n m o o' b hn => by simp [AM.look] at hn)).mono ?_
  rintro e W' ⟨u, v', h', ρ', rfl, ⟨rfl, rfl⟩, hA⟩
  exact ⟨u, rfl, ⟨ρ', _, hA.val⟩, hA.ext.weaken fun b _ hb => by obtain ⟨n, o, hn, _⟩ := hb; simp [AM.look] at hn⟩
theorem stack_LayerOf_ok (fu : Nat) : FnOK Tryz.prog 253 (stack_LayerOf_g fu) := by
  refine ⟨fun R x y K r h => ?_, fun x y a b h L0 _ => ⟨L0, fun _ _ => rfl, fun n t l v hn => by change AM.look n [] = _ at hn; simp [AM.look] at hn, ?_⟩⟩
  · obtain ⟨v, s, t, ⟨⟩⟩ := x
    obtain ⟨q, hq, h⟩ := optc_some h
    change stack_LayerOf fu v s t = some q at hq
    refine ⟨(q.1, q.2, ()), (), ?_, h⟩
    show optc (stack_LayerOf fu v s t) (fun q => some ((q.1, q.2, ()), ())) = _
    rw [hq]; rfl
  · obtain ⟨v, s, t, ⟨⟩⟩ := x
    obtain ⟨q, hq, hab⟩ := optc_some h
    change stack_LayerOf fu v s t = some q at hq
    have hab' : ((q.1, q.2, ()), ()) = (a, b) := Option.some.inj hab
    obtain ⟨rfl, rfl⟩ := Prod.mk.inj hab'
    unfold stack_LayerOf at hq
    split at hq
    case h_2 => simp at hq
    rename_i l hl
    obtain ⟨p, hp, hq⟩ := optc_some hq
    obtain ⟨_, _, _, sP⟩ := (duty_View_Person_ok fu).spec (v, l, t, ()) () (p, ()) () (by show optc (duty_View_Person fu v l t) _ = _; rw [hp]; rfl) L0 (fun n t l v hn => by change AM.look n [] = _ at hn; simp [AM.look] at hn)
    have hA : 0 ≤ p → ∃ aw, stack_Away fu s p t = some aw ∧ q = if aw = true then (-1, -1) else (0, p) := fun h0 => by
      rw [cnd_n (by omega)] at hq
      obtain ⟨aw, h1, h2⟩ := optc_some hq
      refine ⟨aw, h1, ?_⟩
      cases aw <;> simpa [cnd] using h2.symm
    obtain ⟨aw, haw, hqa⟩ : ∃ aw : Bool, (0 ≤ p → stack_Away fu s p t = some aw) ∧ q = if p < 0 ∨ aw = true then (-1, -1) else (0, p) := by
      by_cases h0 : p < 0
      · rw [cnd_p h0] at hq
        exact ⟨true, fun h => by omega, by rw [if_pos (.inl h0)]; exact (Option.some.inj hq).symm⟩
      · obtain ⟨aw, h1, h2⟩ := hA (by omega)
        refine ⟨aw, fun _ => h1, ?_⟩
        rw [h2]
        cases aw <;> simp [h0]
    intro G ρ M w us hG hM hargs _ _
    change AV.Ts ρ (lookH []) M w [.agg [.p (.sl false 3 (v.Config.Zones.map D.Zone.cells)), .p (.sl false 6 (v.Config.People.map D.Person.cells)), .p (.sl false 3 (v.Config.Calendars.map D.Calendar.cells)), .p (.sl false 3 (v.Config.Schedules.map D.Schedule.cells)), .p (.sl false 2 (v.tables.map D.Table.cells))],
      .agg [.p (.v (.string s.Name)), .p (.sl false 10 (s.Layers.map D.Layer.cells)), .p (.sl false 5 (s.Edits.map D.Edit.cells))], .p (.v (.int .i64 t))] us at hargs
    simp only [AV.Ts, AV.R] at hargs
    obtain ⟨u1, us1, rfl, ⟨cs1, rfl, r1⟩, u2, us2, rfl, ⟨cs2, rfl, r2⟩, u3, us3, rfl, r3, rfl⟩ := hargs
    have r1' := r1
    have r2' := r2
    obtain ⟨v1, w1, e1, x1, r1⟩ := pv_at r1
    obtain ⟨v2, w2, rfl, x2, r1⟩ := pv_at r1
    obtain ⟨v3, w3, rfl, x3, r1⟩ := pv_at r1
    obtain ⟨v4, w4, rfl, x4, r1⟩ := pv_at r1
    obtain ⟨v5, w5, rfl, x5, r1⟩ := pv_at r1
    simp only [AV.Rs] at r1
    subst r1
    obtain ⟨s1, z1, e2, y1, r2⟩ := pv_at r2
    obtain ⟨s2, z2, rfl, y2, r2⟩ := pv_at r2
    obtain ⟨s3, z3, rfl, y3, r2⟩ := pv_at r2
    simp only [AV.Rs] at r2
    subst r2
    have e1' : cs1 = #[v1, v2, v3, v4, v5] := by cases cs1; simpa using e1
    have e2' : cs2 = #[s1, s2, s3] := by cases cs2; simpa using e2
    subst e1'
    subst e2'
    simp only [PV.R] at r3
    obtain ⟨rfl, _⟩ := r3
    rw [hl] at y2
    have y2' := y2
    simp only [PV.R, List.map_cons, List.map_nil, List.length_cons, List.length_nil] at y2
    obtain ⟨ad, cap, rfl, hcap, _, hn, hrows⟩ := y2
    cases ad with
    | none => have := hn rfl; omega
    | some ad =>
      obtain ⟨hsp, hMb, hlt, hrow⟩ := hrows ad rfl (by omega)
      obtain ⟨bb, off, sp⟩ := ad
      dsimp only at hsp hMb hlt hrow
      subst hsp
      simp only [PV.Rows] at hrow
      obtain ⟨_, hc, _⟩ := hrow
      change PV.Cells M w bb off [.v (.string l.Name), .v (.int .i64 l.Zone), .v (.int .i64 l.Start.Day), .v (.int .i64 l.Start.Second), .v (.int .i64 l.Unit), .v (.int .i64 l.Every), .sl false 1 (l.Members.map D.cInt), .sl false 2 (l.Windows.map D.Window.cells), .v (.int .i64 l.Calendar), .v (.int .i64 l.Mode)] at hc
      obtain ⟨l1, c1, m1, hc⟩ := cell_at hc
      obtain ⟨l2, c2, m2, hc⟩ := cell_at hc
      obtain ⟨l3, c3, m3, hc⟩ := cell_at hc
      obtain ⟨l4, c4, m4, hc⟩ := cell_at hc
      obtain ⟨l5, c5, m5, hc⟩ := cell_at hc
      obtain ⟨l6, c6, m6, hc⟩ := cell_at hc
      obtain ⟨l7, c7, m7, hc⟩ := cell_at hc
      obtain ⟨l8, c8, m8, hc⟩ := cell_at hc
      obtain ⟨l9, c9, m9, hc⟩ := cell_at hc
      obtain ⟨l10, c10, m10, hc⟩ := cell_at hc
      have hx0 : ∀ {W : World}, Ext (fun _ => False) w W → ∀ {x : PV} {u : Value}, x.R M w u → x.R M W u := fun hx => fun h => PV.R.mono hx (fun _ h => h.elim) (fun _ _ h => h) h
      have key := lay_in 3 (by omega) v1 v2 v3 v4 v5 s1 s3 bb off cap t l1 l2 l3 l4 l5 l6 l7 l8 l9 l10 w hlt c1 c2 c3 c4 c5 c6 c7 c8 c9 c10 m1.flat m2.flat m3.flat m4.flat m5.flat m6.flat m7.flat m8.flat m9.flat m10.flat p
        (fun W hx => (spec_call sP hG hM hx (us := [.agg #[v1, v2, v3, v4, v5], .agg #[l1, l2, l3, l4, l5, l6, l7, l8, l9, l10], .int .i64 t]) (by
          change AV.Ts ρ (lookH []) M W [.agg [.p (.sl false 3 (v.Config.Zones.map D.Zone.cells)), .p (.sl false 6 (v.Config.People.map D.Person.cells)), .p (.sl false 3 (v.Config.Calendars.map D.Calendar.cells)), .p (.sl false 3 (v.Config.Schedules.map D.Schedule.cells)), .p (.sl false 2 (v.tables.map D.Table.cells))],
            .agg [.p (.v (.string l.Name)), .p (.v (.int .i64 l.Zone)), .p (.v (.int .i64 l.Start.Day)), .p (.v (.int .i64 l.Start.Second)), .p (.v (.int .i64 l.Unit)), .p (.v (.int .i64 l.Every)), .p (.sl false 1 (l.Members.map D.cInt)), .p (.sl false 2 (l.Windows.map D.Window.cells)), .p (.v (.int .i64 l.Calendar)), .p (.v (.int .i64 l.Mode))], .p (.v (.int .i64 t))] _
          simp only [AV.Ts, AV.R]
          exact ⟨_, _, rfl, ⟨_, rfl, pv_put (hx0 hx x1) (pv_put (hx0 hx x2) (pv_put (hx0 hx x3) (pv_put (hx0 hx x4) (pv_put (hx0 hx x5) (by simp only [AV.Rs])))))⟩, _, _, rfl, ⟨_, rfl, pv_put (hx0 hx m1) (pv_put (hx0 hx m2) (pv_put (hx0 hx m3) (pv_put (hx0 hx m4) (pv_put (hx0 hx m5) (pv_put (hx0 hx m6) (pv_put (hx0 hx m7) (pv_put (hx0 hx m8) (pv_put (hx0 hx m9) (pv_put (hx0 hx m10) (by simp only [AV.Rs]))))))))))⟩, _, _, rfl, by simp only [PV.R]; exact ⟨trivial, rfl⟩, rfl⟩)).mono (by
            rintro e W' ⟨u, rfl, ⟨ρ', M', hu⟩, hx'⟩
            change PV.R M' W' (.v (.int .i64 p)) u at hu
            simp only [PV.R] at hu
            exact ⟨by rw [hu.1], hx'⟩))
        aw (fun h0 W hx => by
          obtain ⟨_, _, _, sA⟩ := (stack_Away_ok fu).spec (s, p, t, ()) () (aw, ()) () (by show optc (stack_Away fu s p t) _ = _; rw [haw h0]; rfl) L0 (fun n t l v hn => by change AM.look n [] = _ at hn; simp [AM.look] at hn)
          refine (spec_call sA hG hM hx (us := [.agg #[s1, .slice (some ⟨bb, off, none⟩) 1 cap, s3], .int .i64 p, .int .i64 t]) (by
            change AV.Ts ρ (lookH []) M W [.agg [.p (.v (.string s.Name)), .p (.sl false 10 (s.Layers.map D.Layer.cells)), .p (.sl false 5 (s.Edits.map D.Edit.cells))], .p (.v (.int .i64 p)), .p (.v (.int .i64 t))] _
            simp only [AV.Ts, AV.R]
            exact ⟨_, _, rfl, ⟨_, rfl, pv_put (hx0 hx y1) (pv_put (by rw [hl]; exact hx0 hx y2') (pv_put (hx0 hx y3) (by simp only [AV.Rs])))⟩, _, _, rfl, by simp only [PV.R]; exact ⟨trivial, rfl⟩, _, _, rfl, by simp only [PV.R]; exact ⟨trivial, rfl⟩, rfl⟩)).mono ?_
          rintro e W' ⟨u, rfl, ⟨ρ', M', hu⟩, hx'⟩
          change PV.R M' W' (.v (.bool aw)) u at hu
          simp only [PV.R] at hu
          exact ⟨by rw [hu.1], hx'⟩)
      refine (callsIn_wide.1 key).mono ?_
      rintro e w' ⟨rfl, hx⟩
      refine ⟨_, _, [], ρ, rfl, ⟨rfl, rfl⟩, ?_, fun n o hn => ?_, fun n m o o' b hn => ?_, fun n o b hn => ?_, hx.weaken fun b _ hb => hb.elim, fun n o hn => ?_⟩
      case refine_2 => change AM.look n [] = _ at hn; simp [AM.look] at hn
      case refine_3 => change AM.look n [] = _ at hn; simp [AM.look] at hn
      case refine_4 => change AM.look n [] = _ at hn; simp [AM.look] at hn
      case refine_5 => change AM.look n [] = _ at hn; simp [AM.look] at hn
      show AV.R ρ (lookH []) _ w' (.tup [.p (.v (.int .i64 q.1)), .p (.v (.int .i64 q.2))]) _
      simp only [AV.R, AV.Ts, PV.R]
      refine ⟨_, rfl, _, _, rfl, ⟨?_, rfl⟩, _, _, rfl, ⟨?_, rfl⟩, rfl⟩
      · rw [hqa]; split <;> rfl
      · rw [hqa]; split <;> rfl
end
end Go.Proofs.YtfhcigjkfelnfaaGreat
