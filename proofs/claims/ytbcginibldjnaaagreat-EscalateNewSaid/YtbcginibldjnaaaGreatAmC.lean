/-
  The abstract machine, part C: regions. A region in the text's order; a region that draws its order, where the operations do not disturb each other. No project text.
-/
import Derived.Test.YtbcginibldjnaaaGreatAmB
set_option linter.unusedSimpArgs false
set_option linter.unusedVariables false
namespace Go.Proofs.YtbcginibldjnaaaGreat.AM
open Go

/-- From every world that the state describes, the code comes to an exit and a state that Q names. -/
def AWp (P : Program) (Γ : Ctx) (c : Code) (s : AS) (Q : Exit → AS → Prop) : Prop :=
  ∀ (ρ : Name → Loc) (M : Nat → Prop) (a : Act) (w : World), Sim Γ ρ M s a w →
    c.wp P (fun e a' w' => ∃ s' ρ' M', Q e s' ∧ Sim Γ ρ' M' s' a' w') a w

def mk (ts : List (Nat × AV)) (hs : List (Name × AO)) : AS := ⟨fun t => look t ts, fun n => look n hs⟩

abbrev Row := Option Nat × Eff

def StepsOK (P : Program) (ops : Array Oper) : Nat → List Row → Prop
  | i, [] => ops.size = i
  | i, (d, e) :: r => StepOK P ops i d e ∧ StepsOK P ops (i + 1) r

def keys {α : Type} (l : List (Nat × α)) : List Nat := l.map (·.1)

def freeIn (n : Name) (ts : List (Nat × AV)) (hs : List (Name × AO)) : Bool := ts.all (fun p => !p.2.has n) && hs.all (fun p => !p.2.has n)

def putT (ts : List (Nat × AV)) (d : Option Nat) (e : Eff) : List (Nat × AV) := match d with | some d => (d, e.v) :: ts | none => ts

def dstOK (n : Nat) : Option Nat → Bool
  | some d => Nat.blt d n
  | none => true

def newOK (e : Eff) (ts : List (Nat × AV)) (hs : List (Name × AO)) : Bool := e.nw.all fun n => (look n hs).isNone && freeIn n ts hs && (keys e.upd).contains n

/-- What is looked up along the text's order, and where it ends. -/
def got (n : Nat) : List Row → List (Nat × AV) → List (Name × AO) → List (Option AV) × List (Option AO) × Bool × List (Nat × AV) × List (Name × AO)
  | [], ts, hs => ([], [], true, ts, hs)
  | (d, e) :: r, ts, hs =>
    match got n r (putT ts d e) (e.upd ++ hs) with
    | (a, b, c, ts', hs') => (e.rd.map (fun p => look p.1 ts) ++ a, e.hp.map (fun p => look p.1 hs) ++ b, dstOK n d && newOK e ts hs && c, ts', hs')

def wantS : List Row → List (Option AV)
  | [] => []
  | (_, e) :: r => e.rd.map (fun p => some p.2) ++ wantS r
def wantH : List Row → List (Option AO)
  | [] => []
  | (_, e) :: r => e.hp.map (fun p => some p.2) ++ wantH r

/-- All in one equation: what is read is what lies there; what is kept is what lies there at the end. -/
def fits (n : Nat) (names : List Name) (L : List Row) (ts : List (Nat × AV)) (hs : List (Name × AO)) (ts' : List (Nat × AV)) (hs' : List (Name × AO)) : Prop :=
  (match got n L ts hs with
   | (a, b, c, tf, hf) => (a ++ ts'.map (fun p => look p.1 tf), b ++ hs'.map (fun p => look p.1 hf), c && names.all fun m => (look m hs').isSome)) =
  (wantS L ++ ts'.map (fun p => some p.2), wantH L ++ hs'.map (fun p => some p.2), true)

theorem look_append {α : Type} (k : Nat) : ∀ (l l' : List (Nat × α)), look k (l ++ l') = match look k l with | some x => some x | none => look k l'
  | [], l' => rfl
  | (j, x) :: r, l' => by
    simp only [List.cons_append, look]
    split
    · rfl
    · exact look_append k r l'
theorem look_mem {α : Type} {k : Nat} {x : α} : ∀ {l : List (Nat × α)}, look k l = some x → (k, x) ∈ l
  | [], h => by simp [look] at h
  | (j, y) :: r, h => by
    simp only [look] at h
    split at h
    · rename_i e; cases h; subst e; simp
    · exact List.mem_cons_of_mem _ (look_mem h)
theorem look_none {α : Type} {k : Nat} : ∀ {l : List (Nat × α)}, k ∉ keys l → look k l = none
  | [], _ => rfl
  | (j, y) :: r, h => by
    simp only [keys, List.map_cons, List.mem_cons, not_or] at h
    simp only [look]
    rw [if_neg (fun e => h.1 e.symm)]
    exact look_none h.2

theorem map_eq_all {α β : Type} {f g : α → β} : ∀ {l : List α}, l.map f = l.map g → ∀ x ∈ l, f x = g x
  | [], _, x, hx => by simp at hx
  | y :: r, h, x, hx => by
    simp only [List.map_cons, List.cons.injEq] at h
    rcases List.mem_cons.1 hx with rfl | hx
    · exact h.1
    · exact map_eq_all h.2 x hx

theorem free_of {n : Name} {ts : List (Nat × AV)} {hs : List (Name × AO)} (h : freeIn n ts hs = true) : (mk ts hs).free n := by
  simp only [freeIn, Bool.and_eq_true, List.all_eq_true] at h
  refine ⟨fun t x ht => ?_, fun m o hm => ?_⟩
  · have := h.1 _ (look_mem ht); simpa using this
  · have := h.2 _ (look_mem hm); simpa using this

theorem mk_run (ts : List (Nat × AV)) (hs : List (Name × AO)) (d : Option Nat) (e : Eff) : (mk ts hs).run d e = mk (putT ts d e) (e.upd ++ hs) := by
  unfold AS.run mk
  congr 1
  · funext t
    cases d with
    | none => simp [putT]
    | some d => simp [putT, look]
  · funext n
    rw [look_append]
    split <;> simp [*]

theorem holds_of {e : Eff} {ts : List (Nat × AV)} {hs : List (Name × AO)} (h1 : e.rd.map (fun p => look p.1 ts) = e.rd.map (fun p => some p.2))
    (h2 : e.hp.map (fun p => look p.1 hs) = e.hp.map (fun p => some p.2)) (h3 : newOK e ts hs = true) : (mk ts hs).holds e := by
  refine ⟨fun t x hx => map_eq_all h1 _ hx, fun n o hn => map_eq_all h2 _ hn, fun n hn => ?_⟩
  simp only [newOK, List.all_eq_true, Bool.and_eq_true, Option.isNone_iff_eq_none] at h3
  exact ⟨(h3 n hn).1.1, free_of (h3 n hn).1.2⟩

theorem append_split {α : Type} {a a' b b' : List α} (h : a ++ b = a' ++ b') (hl : a.length = a'.length) : a = a' ∧ b = b' :=
  List.append_inj h hl

theorem got_len (n : Nat) : ∀ (L : List Row) (ts : List (Nat × AV)) (hs : List (Name × AO)), (got n L ts hs).1.length = (wantS L).length ∧ (got n L ts hs).2.1.length = (wantH L).length
  | [], ts, hs => by simp [got, wantS, wantH]
  | (d, e) :: r, ts, hs => by
    obtain ⟨h1, h2⟩ := got_len n r (putT ts d e) (e.upd ++ hs)
    simp only [got, wantS, wantH, List.length_append, List.length_map]
    exact ⟨by rw [h1], by rw [h2]⟩

/-- The text's order. -/
theorem wpOps_seq {P : Program} {ops : Array Oper} {Γ : Ctx} {Q : Exit → Act → World → Prop} {n : Nat} (hn : Γ.n = n) :
    ∀ (L : List Row) (i : Nat) (ts : List (Nat × AV)) (hs : List (Name × AO)), StepsOK P ops i L →
    (got n L ts hs).1 = wantS L → (got n L ts hs).2.1 = wantH L → (got n L ts hs).2.2.1 = true →
    ∀ (ρ : Name → Loc) (M : Nat → Prop) (a : Act) (w : World), Sim Γ ρ M (mk ts hs) a w →
    (∀ ρ' M' a' w', Sim Γ ρ' M' (mk (got n L ts hs).2.2.2.1 (got n L ts hs).2.2.2.2) a' w' → Q .normal a' w') →
    wpOps P ops Q (List.range' i (ops.size - i)) a w
  | [], i, ts, hs, hst, _, _, _, ρ, M, a, w, hsim, hQ => by
    simp only [StepsOK] at hst
    simp only [hst, Nat.sub_self, List.range'_zero, wpOps]
    exact hQ ρ M a w (by simpa only [got] using hsim)
  | (d, e) :: r, i, ts, hs, hst, h1, h2, h3, ρ, M, a, w, hsim, hQ => by
    simp only [StepsOK] at hst
    have hl := got_len n r (putT ts d e) (e.upd ++ hs)
    simp only [got, wantS, wantH] at h1 h2 h3 hQ
    obtain ⟨h1a, h1b⟩ := append_split h1 (by simp)
    obtain ⟨h2a, h2b⟩ := append_split h2 (by simp)
    simp only [Bool.and_eq_true] at h3
    have hi : i < ops.size := by
      have : ∀ (r : List Row) (i : Nat), StepsOK P ops i r → i ≤ ops.size := by
        intro r
        induction r with
        | nil => intro i h; simp only [StepsOK] at h; omega
        | cons x r ih => intro i h; simp only [StepsOK] at h; have := ih (i + 1) h.2; omega
      have := this r (i + 1) hst.2; omega
    rw [show ops.size - i = (ops.size - (i + 1)) + 1 by omega, List.range'_succ, wpOps_cons]
    refine hst.1 Γ ρ M (mk ts hs) a w _ Q hsim (holds_of h1a h2a h3.1.2) (fun d' hd' => ?_) (fun ρ' M' a' w' hsim' => ?_)
    · subst hd'; have := h3.1.1; simp only [dstOK] at this; rw [hn]; exact Nat.le_of_ble_eq_true this
    · rw [mk_run] at hsim'
      exact wpOps_seq hn r (i + 1) _ _ hst.2 h1b h2b h3.2 ρ' M' a' w' hsim' hQ

theorem fits_split {n : Nat} {names : List Name} {L : List Row} {ts : List (Nat × AV)} {hs : List (Name × AO)} {ts' : List (Nat × AV)} {hs' : List (Name × AO)} (h : fits n names L ts hs ts' hs') :
    (got n L ts hs).1 = wantS L ∧ (got n L ts hs).2.1 = wantH L ∧ (got n L ts hs).2.2.1 = true ∧
    (∀ t x, look t ts' = some x → look t (got n L ts hs).2.2.2.1 = some x) ∧ (∀ t x, look t hs' = some x → look t (got n L ts hs).2.2.2.2 = some x) ∧ (∀ m, m ∈ names → look m hs' ≠ none) := by
  unfold fits at h
  simp only [Prod.mk.injEq] at h
  obtain ⟨h1, h2, h3⟩ := h
  simp only [Bool.and_eq_true, List.all_eq_true] at h3
  have hl := got_len n L ts hs
  obtain ⟨h1a, h1b⟩ := append_split h1 hl.1
  obtain ⟨h2a, h2b⟩ := append_split h2 hl.2
  exact ⟨h1a, h2a, h3.1, fun t x hx => map_eq_all h1b _ (look_mem hx), fun t x hx => map_eq_all h2b _ (look_mem hx), fun m hm hm' => by have := h3.2 m hm; rw [hm'] at this; simp at this⟩

/-- A region in the text's order. -/
theorem AWp.region {P : Program} {Γ : Ctx} {id : Nat} {ops : Array Oper} {ts ts' : List (Nat × AV)} {hs hs' : List (Name × AO)} {Q : Exit → AS → Prop} {n : Nat} {names : List Name} (hn : Γ.n = n) (hk : Γ.names = names)
    (L : List Row) (hst : StepsOK P ops 0 L) (hf : fits n names L ts hs ts' hs') (hQ : Q .normal (mk ts' hs')) : AWp P Γ (.region id ops false) (mk ts hs) Q := by
  intro ρ M a w hsim
  obtain ⟨h1, h2, h3, h4, h5, h6⟩ := fits_split hf
  refine wp_region ?_
  have := wpOps_seq (Q := fun e a' w' => ∃ s' ρ' M', Q e s' ∧ Sim Γ ρ' M' s' a' w') hn L 0 ts hs hst h1 h2 h3 ρ M a w hsim
    (fun ρ' M' a' w' hs => ⟨_, ρ', M', hQ, hs.forget h4 h5 (by rw [hk]; exact h6)⟩)
  rwa [Nat.sub_zero, ← List.range_eq_range'] at this

/-! ### Any order -/
def RD (E : Nat → Row) (D : Nat → Bool) (s : AS) : Nat → AS
  | 0 => s
  | k + 1 => if D k then (RD E D s k).run (E k).1 (E k).2 else RD E D s k

theorem run_slot (s : AS) (r : Row) (t : Nat) : (s.run r.1 r.2).slot t = if r.1 = some t then some r.2.v else s.slot t := rfl
theorem run_heap (s : AS) (r : Row) (n : Nat) : (s.run r.1 r.2).heap n = match look n r.2.upd with | some o => some o | none => s.heap n := rfl

theorem RD_slot_same {E : Nat → Row} {D D' : Nat → Bool} {s : AS} {t : Nat} : ∀ (k : Nat), (∀ j, j < k → (E j).1 = some t → D j = D' j) → (RD E D s k).slot t = (RD E D' s k).slot t
  | 0, _ => rfl
  | k + 1, h => by
    have ih := RD_slot_same (s := s) k (fun j hj => h j (by omega))
    have hk := h k (by omega)
    simp only [RD]
    by_cases ht : (E k).1 = some t
    · rw [hk ht]; split
      · rw [run_slot, run_slot, if_pos ht, if_pos ht]
      · exact ih
    · have e1 : ∀ b : Bool, ∀ x : AS, (if b then x.run (E k).1 (E k).2 else x).slot t = x.slot t := by
        intro b x; split <;> simp [run_slot, ht]
      rw [e1, e1, ih]
theorem RD_heap_same {E : Nat → Row} {D D' : Nat → Bool} {s : AS} {m : Nat} : ∀ (k : Nat), (∀ j, j < k → look m (E j).2.upd ≠ none → D j = D' j) → (RD E D s k).heap m = (RD E D' s k).heap m
  | 0, _ => rfl
  | k + 1, h => by
    have ih := RD_heap_same (s := s) k (fun j hj => h j (by omega))
    have hk := h k (by omega)
    simp only [RD]
    by_cases ht : look m (E k).2.upd = none
    · have e1 : ∀ b : Bool, ∀ x : AS, (if b then x.run (E k).1 (E k).2 else x).heap m = x.heap m := by
        intro b x; split <;> simp [run_heap, ht]
      rw [e1, e1, ih]
    · rw [hk ht]; split
      · cases hl : look m (E k).2.upd with
        | none => exact absurd hl ht
        | some o => simp [run_heap, hl]
      · exact ih
/-- No one of the done ones from i on writes it. -/
theorem RD_slot_cut {E : Nat → Row} {D : Nat → Bool} {s : AS} {t i : Nat} : ∀ (k : Nat), i ≤ k → (∀ j, i ≤ j → j < k → (E j).1 = some t → D j = false) → (RD E D s k).slot t = (RD E D s i).slot t
  | 0, hk, _ => by have : i = 0 := by omega
                   subst this; rfl
  | k + 1, hk, h => by
    by_cases e : i = k + 1
    · subst e; rfl
    · have ih := RD_slot_cut (s := s) (D := D) k (by omega) (fun j hj hj' => h j hj (by omega))
      simp only [RD]
      by_cases ht : (E k).1 = some t
      · rw [h k (by omega) (by omega) ht]; simpa using ih
      · split
        · rw [run_slot, if_neg ht]; exact ih
        · exact ih
theorem RD_heap_cut {E : Nat → Row} {D : Nat → Bool} {s : AS} {m i : Nat} : ∀ (k : Nat), i ≤ k → (∀ j, i ≤ j → j < k → look m (E j).2.upd ≠ none → D j = false) → (RD E D s k).heap m = (RD E D s i).heap m
  | 0, hk, _ => by have : i = 0 := by omega
                   subst this; rfl
  | k + 1, hk, h => by
    by_cases e : i = k + 1
    · subst e; rfl
    · have ih := RD_heap_cut (s := s) (D := D) k (by omega) (fun j hj hj' => h j hj (by omega))
      simp only [RD]
      by_cases ht : look m (E k).2.upd = none
      · split
        · rw [run_heap, ht]; exact ih
        · exact ih
      · rw [h k (by omega) (by omega) ht]; simpa using ih

/-- Where a slot's content comes from. -/
theorem RD_slot_from {E : Nat → Row} {D : Nat → Bool} {s : AS} {t : Nat} {x : AV} : ∀ (k : Nat), (RD E D s k).slot t = some x → s.slot t = some x ∨ ∃ j, j < k ∧ D j = true ∧ x = (E j).2.v
  | 0, h => .inl h
  | k + 1, h => by
    simp only [RD] at h
    by_cases hd : D k = true
    · simp only [hd, if_true, run_slot] at h
      split at h
      · cases h; exact .inr ⟨k, by omega, hd, rfl⟩
      · rcases RD_slot_from k h with h' | ⟨j, h1, h2⟩
        · exact .inl h'
        · exact .inr ⟨j, by omega, h2⟩
    · simp only [hd, if_false, Bool.false_eq_true] at h
      rcases RD_slot_from k h with h' | ⟨j, h1, h2⟩
      · exact .inl h'
      · exact .inr ⟨j, by omega, h2⟩
theorem RD_heap_from {E : Nat → Row} {D : Nat → Bool} {s : AS} {m : Nat} {o : AO} : ∀ (k : Nat), (RD E D s k).heap m = some o → s.heap m = some o ∨ ∃ j, j < k ∧ D j = true ∧ look m (E j).2.upd = some o
  | 0, h => .inl h
  | k + 1, h => by
    simp only [RD] at h
    by_cases hd : D k = true
    · simp only [hd, if_true, run_heap] at h
      split at h
      · rename_i o' ho'; cases h; exact .inr ⟨k, by omega, hd, ho'⟩
      · rcases RD_heap_from k h with h' | ⟨j, h1, h2⟩
        · exact .inl h'
        · exact .inr ⟨j, by omega, h2⟩
    · simp only [hd, if_false, Bool.false_eq_true] at h
      rcases RD_heap_from k h with h' | ⟨j, h1, h2⟩
      · exact .inl h'
      · exact .inr ⟨j, by omega, h2⟩
theorem RD_heap_some {E : Nat → Row} {D : Nat → Bool} {s : AS} {m : Nat} : ∀ (k : Nat), (RD E D s k).heap m = none → s.heap m = none ∧ ∀ j, j < k → D j = true → look m (E j).2.upd = none
  | 0, h => ⟨h, fun j hj => by omega⟩
  | k + 1, h => by
    simp only [RD] at h
    by_cases hd : D k = true
    · simp only [hd, if_true, run_heap] at h
      split at h
      · simp at h
      · rename_i hl
        obtain ⟨h1, h2⟩ := RD_heap_some k h
        refine ⟨h1, fun j hj hdj => ?_⟩
        by_cases e : j = k
        · subst e; exact hl
        · exact h2 j (by omega) hdj
    · simp only [hd, if_false, Bool.false_eq_true] at h
      obtain ⟨h1, h2⟩ := RD_heap_some k h
      refine ⟨h1, fun j hj hdj => ?_⟩
      by_cases e : j = k
      · subst e; exact absurd hdj hd
      · exact h2 j (by omega) hdj

def Eff.has (n : Name) (e : Eff) : Bool := e.v.has n || e.upd.any fun p => p.2.has n

/-- What two operations without an order between them must not do to each other. -/
structure Apart (x y : Row) : Prop where
  d1 : ∀ t, x.1 = some t → t ∉ keys y.2.rd
  d2 : ∀ t, y.1 = some t → t ∉ keys x.2.rd
  dd : ∀ t, x.1 = some t → y.1 ≠ some t
  h1 : ∀ n, n ∈ keys x.2.upd → n ∉ keys y.2.hp
  h2 : ∀ n, n ∈ keys y.2.upd → n ∉ keys x.2.hp
  hh : ∀ n, n ∈ keys x.2.upd → n ∉ keys y.2.upd
  c1 : ∀ n, n ∈ x.2.nw → y.2.has n = false

def apartB (x y : Row) : Bool :=
  (match x.1 with | some t => !(keys y.2.rd).contains t | none => true) && (match y.1 with | some t => !(keys x.2.rd).contains t | none => true) &&
  (match x.1, y.1 with | some t, some u => !(Nat.beq t u) | _, _ => true) &&
  (keys x.2.upd).all (fun n => !(keys y.2.hp).contains n && !(keys y.2.upd).contains n) && x.2.nw.all (fun n => !y.2.has n) &&
  (keys y.2.upd).all (fun n => !(keys x.2.hp).contains n)

theorem apart_of {x y : Row} (h : apartB x y = true) : Apart x y := by
  unfold apartB at h
  simp only [Bool.and_eq_true, List.all_eq_true, Bool.not_eq_true', List.contains_eq_mem, decide_eq_false_iff_not] at h
  obtain ⟨⟨⟨⟨⟨g1, g2⟩, g3⟩, g4⟩, g6⟩, g5⟩ := h
  refine ⟨fun t ht => ?_, fun t ht => ?_, fun t ht ht' => ?_, fun n hn => (g4 n hn).1, fun n hn => g5 n hn, fun n hn => (g4 n hn).2, fun n hn => g6 n hn⟩
  · simp only [ht] at g1; simpa using g1
  · simp only [ht] at g2; simpa using g2
  · simp only [ht, ht'] at g3
    have : Nat.beq t t = true := Nat.beq_refl t
    simp [this] at g3

/-- Who comes before: a mask for each operation. -/
def maskOf (o : Oper) (prev : List Nat) : Nat :=
  o.after.toList.foldl (fun s e => if Region.binds .any e then s ||| 2 ^ e.on ||| prev.getD e.on 0 else s) 0
def masks : List Oper → List Nat → List Nat
  | [], acc => acc
  | o :: r, acc => masks r (acc ++ [maskOf o acc])

theorem maskOf_sound {D : Nat → Bool} {prev : List Nat} (hp : ∀ i j, D i = true → (prev.getD i 0).testBit j = true → D j = true) :
    ∀ (l : List Edge) (s : Nat), (∀ e ∈ l, Region.binds .any e = true → D e.on = true) → (∀ j, s.testBit j = true → D j = true) →
    ∀ j, (l.foldl (fun s e => if Region.binds .any e then s ||| 2 ^ e.on ||| prev.getD e.on 0 else s) s).testBit j = true → D j = true
  | [], s, _, hs, j, hj => hs j hj
  | e :: l, s, hl, hs, j, hj => by
    simp only [List.foldl_cons] at hj
    refine maskOf_sound hp l _ (fun e' he' => hl e' (List.mem_cons_of_mem _ he')) (fun k hk => ?_) j hj
    split at hk
    · rename_i hb
      have hD := hl e (by simp) hb
      simp only [Nat.testBit_or, Bool.or_eq_true, Nat.testBit_two_pow, decide_eq_true_eq] at hk
      rcases hk with (h1 | h1) | h1
      · exact hs k h1
      · rw [← h1]; exact hD
      · exact hp e.on k hD h1
    · exact hs k hk

theorem masks_sound {D : Nat → Bool} : ∀ (l : List Oper) (acc : List Nat),
    (∀ i o, l[i]? = some o → D (acc.length + i) = true → ∀ e ∈ o.after.toList, Region.binds .any e = true → D e.on = true) →
    (∀ i j, D i = true → (acc.getD i 0).testBit j = true → D j = true) →
    ∀ i j, D i = true → ((masks l acc).getD i 0).testBit j = true → D j = true
  | [], acc, _, hacc => hacc
  | o :: r, acc, hl, hacc => by
    simp only [masks]
    refine masks_sound r _ (fun i o' ho' hD => ?_) (fun i j hD hj => ?_)
    · refine hl (i + 1) o' (by simpa using ho') ?_
      rw [List.length_append, List.length_singleton] at hD
      rwa [show acc.length + (i + 1) = acc.length + 1 + i by omega]
    · rcases Nat.lt_trichotomy i acc.length with h1 | h1 | h1
      · rw [List.getD_eq_getElem?_getD, List.getElem?_append_left h1, ← List.getD_eq_getElem?_getD] at hj
        exact hacc i j hD hj
      · subst h1
        simp only [List.getD_eq_getElem?_getD, List.getElem?_append_right (Nat.le_refl _), Nat.sub_self, List.getElem?_cons_zero, Option.getD_some] at hj
        have h0 := hl 0 o (by simp)
        simp only [Nat.add_zero] at h0
        exact maskOf_sound hacc _ 0 (h0 hD) (fun j hj => by simp at hj) j hj
      · simp only [List.getD_eq_getElem?_getD] at hj
        rw [List.getElem?_eq_none (by simp; omega)] at hj
        simp at hj

end Go.Proofs.YtbcginibldjnaaaGreat.AM
