/-
  A book with one thing changed (OddBook), in plain Lean; what the walk of it uses.
-/
import Derived.Test.YtimfbibaoppfcaaGreatDoorGrowLaw
import Derived.Test.YtimfbibaoppfcaaGreatDoorAmQ
set_option linter.unusedSimpArgs false
set_option linter.unusedVariables false
namespace Go.Proofs.YtimfbibaoppfcaaGreatDoor
open Go AM
/-- The policies copied so far; row k's steps are named x. -/
def prow (b : D.Book) (k : Nat) (x : Value) (nm : ByteArray) (rp : Int) (n : Nat) : List (List PV) := ((b.Policies.take n).map D.Policy.cells).set k [pS nm, .v x, pI rp]
theorem prow_len {b : D.Book} {k : Nat} {x : Value} {nm : ByteArray} {rp : Int} {n : Nat} (h : n ≤ b.Policies.length) : (prow b k x nm rp n).length = n := by simp [prow]; omega
theorem prow_at {b : D.Book} {k : Nat} {x : Value} {nm : ByteArray} {rp : Int} {n : Nat} (h : n ≤ b.Policies.length) (hk : k < n) : (prow b k x nm rp n)[k]? = some [pS nm, .v x, pI rp] := by
  unfold prow
  rw [List.getElem?_set_self (by simp; omega)]
theorem prow_set {b : D.Book} {k : Nat} {x : Value} {nm nm' : ByteArray} {rp rp' : Int} {n : Nat} : (prow b k x nm rp n).set k [pS nm', .v x, pI rp'] = prow b k x nm' rp' n := by
  unfold prow; rw [List.set_set]
theorem take_snoc {α : Type} [Inhabited α] {l : List α} {i : Nat} (h : i < l.length) : l.take i ++ [nth l i] = l.take (i + 1) := by
  rw [List.take_add_one, nth_eq h]; rfl
theorem take_map_snoc {α : Type} [Inhabited α] {l : List α} {f : α → List PV} {i : Nat} (h : i < l.length) : (l.take i).map f ++ [f (nth l i)] = (l.take (i + 1)).map f := by
  rw [← take_snoc h, List.map_append]; rfl
theorem prow_first {b : D.Book} {k : Nat} {x : Value} (h : k < b.Policies.length) : (b.Policies.take k).map D.Policy.cells ++ [[pS (nth b.Policies k).Name, .v x, pI (nth b.Policies k).Repeat]] = prow b k x (nth b.Policies k).Name (nth b.Policies k).Repeat (k + 1) := by
  unfold prow
  rw [← take_map_snoc h, List.set_append_right _ _ (by simp; omega)]
  simp [Nat.min_eq_left (Nat.le_of_lt h)]
theorem prow_next {b : D.Book} {k : Nat} {x : Value} {nm : ByteArray} {rp : Int} {i : Nat} (h : i < b.Policies.length) (hk : k < i) : prow b k x nm rp i ++ [(nth b.Policies i).cells] = prow b k x nm rp (i + 1) := by
  unfold prow
  rw [← take_map_snoc h, List.set_append_left _ _ (by simp; omega)]
/-- The row's name becomes its steps. -/
theorem prow_pin {b : D.Book} {k : Nat} {x : Value} {nm : ByteArray} {rp : Int} {ss : List D.PolicyStep} {n : Nat} (hn : n = b.Policies.length) (hk : k < b.Policies.length) :
    RowsPin (fun y => y = x) 3 (ss.map D.PolicyStep.cells) (prow b k x nm rp n) ((b.Policies.set k ⟨nm, ss, rp⟩).map D.Policy.cells) := by
  subst hn
  refine ⟨by simp [prow], fun i r q hr hq => ?_⟩
  unfold prow at hr
  rw [List.take_length, List.getElem?_set] at hr
  rw [List.map_set, List.getElem?_set] at hq
  by_cases e : k = i
  · subst e
    simp only [List.length_map, hk, if_true] at hr hq
    cases hr; cases hq
    refine ⟨rfl, fun j c d hc hd => ?_⟩
    match j with
    | 0 => simp at hc hd; exact .inl (by rw [← hc, ← hd])
    | 1 => simp at hc hd; exact .inr ⟨x, rfl, hc.symm, hd.symm⟩
    | 2 => simp at hc hd; exact .inl (by rw [← hc, ← hd])
    | j + 3 => simp at hc
  · rw [if_neg e] at hr hq
    rw [hr] at hq; cases hq
    exact ⟨rfl, fun j c d hc hd => .inl (by rw [hc] at hd; exact Option.some.inj hd)⟩

theorem map_split {α : Type} [Inhabited α] {l : List α} {f : α → List PV} {i : Nat} (h : i < l.length) : l.map f = (l.take i).map f ++ f (nth l i) :: (l.drop (i + 1)).map f := by
  have h1 : nth l i = l[i] := by have := nth_eq h; rw [List.getElem?_eq_getElem h] at this; exact (Option.some.inj this).symm
  rw [h1, ← List.map_cons, ← List.map_append, ← List.drop_eq_getElem_cons h, List.take_append_drop]

theorem set_split {α : Type} {l : List α} {f : α → List PV} {i : Nat} {x : α} (h : i < l.length) : (l.set i x).map f = (l.take i).map f ++ f x :: (l.drop (i + 1)).map f := by
  rw [List.set_eq_take_append_cons_drop, if_pos h, List.map_append]; rfl
theorem snoc_zero {α : Type} {f : α → List PV} (l : List α) (x : α) (n : Nat) : (l ++ List.replicate n x).map f ++ [f x] = (l ++ List.replicate (n + 1) x).map f := by
  rw [List.replicate_succ', ← List.append_assoc, List.map_append (l₁ := l ++ List.replicate n x)]; rfl
theorem RowsLe.of_get : ∀ {rs qs : List (List PV)}, rs.length = qs.length → (∀ (i : Nat) r q, rs[i]? = some r → qs[i]? = some q → CsLe r q) → RowsLe rs qs
  | [], [], _, _ => trivial
  | r :: rs, q :: qs, hl, h => ⟨h 0 r q rfl rfl, RowsLe.of_get (by simpa using hl) fun i r' q' hr hq => h (i + 1) r' q' (by simpa using hr) (by simpa using hq)⟩
  | [], _ :: _, hl, _ => by simp at hl
  | _ :: _, [], hl, _ => by simp at hl
/-- The row's steps are gone. -/
theorem prow_nil {b : D.Book} {k : Nat} {x : Value} {nm nm' : ByteArray} {rp rp' : Int} {n : Nat} (hn : n = b.Policies.length) (hk : k < b.Policies.length) :
    RowsLe ((prow b k x nm' rp' n).set k [pS nm, .sl true 0 [], pI rp]) ((b.Policies.set k ⟨nm, [], rp⟩).map D.Policy.cells) := by
  subst hn
  unfold prow
  rw [List.set_set, List.take_length, List.map_set]
  refine RowsLe.of_get (by simp) fun i r q hr hq => ?_
  rw [List.getElem?_set] at hr hq
  by_cases e : k = i
  · subst e
    simp only [List.length_map, hk, if_true] at hr hq
    cases hr; cases hq
    exact ⟨PVle.refl _, PVle.nil (by simp), PVle.refl _, trivial⟩
  · rw [if_neg e] at hr hq
    rw [hr] at hq; cases hq
    exact CsLe.refl _

theorem rows_team {l : List D.Team} {i : Nat} {nm : ByteArray} {f : Bool} {es : Nat} {rows : List (List PV)} {ms : List Int} (h : PVle (.sl f es rows) (.sl false 1 (ms.map D.cInt))) :
    RowsLe ((l.map D.Team.cells).set i [pS nm, .sl f es rows]) ((l.set i ⟨nm, ms⟩).map D.Team.cells) := by
  rw [List.map_set]
  refine RowsLe.of_get (by simp) fun j r q hr hq => ?_
  rw [List.getElem?_set] at hr hq
  split at hr
  · rename_i e
    rw [if_pos e] at hq
    split at hr
    · rename_i e2
      rw [if_pos e2] at hq
      cases hr; cases hq
      exact ⟨PVle.refl _, h, trivial⟩
    · simp at hr
  · rename_i e
    rw [if_neg e] at hq
    rw [hr] at hq; cases hq
    exact CsLe.refl _

def oddNames : List ByteArray := [ByteArray.mk #[], ByteArray.mk #[112], ByteArray.mk #[65], ByteArray.mk #[120, 32, 121], ByteArray.mk #[97, 97, 97, 97, 97, 97, 97, 97, 97, 97, 97, 97, 97, 97, 97, 97, 97, 97, 97, 97, 97, 97, 97, 97, 97]]
def oddTeams : List ByteArray := [ByteArray.mk #[119, 101, 98], ByteArray.mk #[], ByteArray.mk #[65]]
def oddMembers : Nat → List Int
  | 0 => []
  | 1 => [3, 1]
  | 2 => [4]
  | 3 => [0, 0]
  | _ => [-1]
/-- A policy, changed at step j in the way c, and the dice behind it. -/
def oddPol (L : List Int) (p : D.Policy) (j c d : Nat) : D.Policy × Nat :=
  let s := nth p.Steps j
  match c with
  | 0 => (⟨nth oddNames (nextN L d 5), p.Steps, p.Repeat⟩, nextI L d 5)
  | 1 => (⟨p.Name, p.Steps, oneV L d [-1, 8, 9]⟩, oneI L d [-1, 8, 9])
  | 2 => (⟨p.Name, p.Steps.set j ⟨oneV L d [-1, 86400, 86401], s.Urgent, s.Targets⟩, p.Repeat⟩, oneI L d [-1, 86400, 86401])
  | 3 => (⟨p.Name, p.Steps.set j ⟨s.Wait, s.Urgent, [⟨((nextN L d 5 : Nat) : Int) - 1, ((nextN L (nextI L d 5) 6 : Nat) : Int) - 1⟩]⟩, p.Repeat⟩, nextI L (nextI L d 5) 6)
  | 4 => (⟨p.Name, [], p.Repeat⟩, d)
  | 7 => (⟨p.Name, p.Steps.set j ⟨s.Wait, s.Urgent, s.Targets ++ List.replicate 7 ⟨0, 0⟩⟩, p.Repeat⟩, d)
  | _ => (p, d)
def oddTs (L : List Int) (ts : List D.Team) (c d : Nat) : List D.Team × Nat :=
  match c with
  | 5 => if ts.length = 0 then (ts, d) else (ts.set (nextN L d (ts.length : Int)) ⟨(nth ts (nextN L d (ts.length : Int))).Name, oddMembers (nextN L (nextI L d (ts.length : Int)) 5)⟩, nextI L (nextI L d (ts.length : Int)) 5)
  | 6 => if ts.length = 0 then (ts, d) else (ts.set 0 ⟨nth oddTeams (nextN L d 3), (nth ts 0).Members⟩, nextI L d 3)
  | _ => (ts, d)
/-- Where the dice stand when the way is rolled. -/
def oddD (L : List Int) (i : Nat) (b : D.Book) : Nat := nextI L (nextI L i (b.Policies.length : Int)) ((nth b.Policies (nextN L i (b.Policies.length : Int))).Steps.length : Int)
def oddJ (L : List Int) (i : Nat) (b : D.Book) : Nat := nextN L (nextI L i (b.Policies.length : Int)) ((nth b.Policies (nextN L i (b.Policies.length : Int))).Steps.length : Int)
def oddBook (L : List Int) (i : Nat) (b : D.Book) : D.Book :=
  if b.Policies.length = 0 then b else
  let k := nextN L i (b.Policies.length : Int)
  if (nth b.Policies k).Steps.length = 0 then b else
  ⟨(oddTs L b.Teams (nextN L (oddD L i b) 9) (nextI L (oddD L i b) 9)).1, b.Policies.set k (oddPol L (nth b.Policies k) (oddJ L i b) (nextN L (oddD L i b) 9) (nextI L (oddD L i b) 9)).1⟩
def oddBookI (L : List Int) (i : Nat) (b : D.Book) : Nat :=
  if b.Policies.length = 0 then i else
  let k := nextN L i (b.Policies.length : Int)
  if (nth b.Policies k).Steps.length = 0 then nextI L i (b.Policies.length : Int) else
  if nextN L (oddD L i b) 9 = 5 ∨ nextN L (oddD L i b) 9 = 6 then (oddTs L b.Teams (nextN L (oddD L i b) 9) (nextI L (oddD L i b) 9)).2 else (oddPol L (nth b.Policies k) (oddJ L i b) (nextN L (oddD L i b) 9) (nextI L (oddD L i b) 9)).2
theorem set_nth {α : Type} [Inhabited α] {l : List α} {i : Nat} (h : i < l.length) : l.set i (nth l i) = l := by
  have h1 : nth l i = l[i] := by have := nth_eq h; rw [List.getElem?_eq_getElem h] at this; exact (Option.some.inj this).symm
  rw [h1, List.set_getElem_self]
theorem steps_self {l : List D.PolicyStep} {i : Nat} (h : i < l.length) : l.set i ⟨(nth l i).Wait, (nth l i).Urgent, (nth l i).Targets⟩ = l := set_nth h
theorem pols_self {l : List D.Policy} {i : Nat} (h : i < l.length) : l.set i ⟨(nth l i).Name, (nth l i).Steps, (nth l i).Repeat⟩ = l := set_nth h
abbrev oddD2 (L : List Int) (i : Nat) (b : D.Book) (k : Nat) : Nat := nextI L (nextI L i ((b.Policies.length : Nat) : Int)) (((nth b.Policies k).Steps.length : Nat) : Int)
section
variable {L : List Int} {i : Nat} {b : D.Book} {k j c : Nat}
theorem odd_0 (h : b.Policies.length = 0) : oddBook L i b = b ∧ oddBookI L i b = i := by
  simp [oddBook, oddBookI, h]
theorem odd_1 (hk : nextN L i ((b.Policies.length : Nat) : Int) = k) (hkl : k < b.Policies.length) (h : (nth b.Policies k).Steps.length = 0) : oddBook L i b = b ∧ oddBookI L i b = nextI L i ((b.Policies.length : Nat) : Int) := by
  have h0 : b.Policies.length ≠ 0 := by omega
  simp [oddBook, oddBookI, h0, hk, h]
theorem odd_2 (hk : nextN L i ((b.Policies.length : Nat) : Int) = k) (hkl : k < b.Policies.length)
    (hj : nextN L (nextI L i ((b.Policies.length : Nat) : Int)) (((nth b.Policies k).Steps.length : Nat) : Int) = j) (hjl : j < (nth b.Policies k).Steps.length)
    (hc : nextN L (nextI L (nextI L i ((b.Policies.length : Nat) : Int)) (((nth b.Policies k).Steps.length : Nat) : Int)) 9 = c) :
    oddBook L i b = ⟨(oddTs L b.Teams c (nextI L (nextI L (nextI L i ((b.Policies.length : Nat) : Int)) (((nth b.Policies k).Steps.length : Nat) : Int)) 9)).1,
      b.Policies.set k (oddPol L (nth b.Policies k) j c (nextI L (nextI L (nextI L i ((b.Policies.length : Nat) : Int)) (((nth b.Policies k).Steps.length : Nat) : Int)) 9)).1⟩ ∧
    oddBookI L i b = if c = 5 ∨ c = 6 then (oddTs L b.Teams c (nextI L (nextI L (nextI L i ((b.Policies.length : Nat) : Int)) (((nth b.Policies k).Steps.length : Nat) : Int)) 9)).2
      else (oddPol L (nth b.Policies k) j c (nextI L (nextI L (nextI L i ((b.Policies.length : Nat) : Int)) (((nth b.Policies k).Steps.length : Nat) : Int)) 9)).2 := by
  have h0 : b.Policies.length ≠ 0 := by omega
  have h1 : (nth b.Policies k).Steps.length ≠ 0 := by omega
  simp only [oddBook, oddBookI, oddD, oddJ, hk, h0, h1, hj, hc, if_false, and_self]
end
end Go.Proofs.YtimfbibaoppfcaaGreatDoor
