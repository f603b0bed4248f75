/-
  The typed layer, part F: shapes: what a value, an object, a state is known to be; typed data off them and back. No project text.
-/
import Derived.Test.YtfhcigjkfelnfaaGreatQRowAuditDoublesE
set_option linter.unusedVariables false
set_option linter.unusedSimpArgs false
namespace Go.Proofs.YtfhcigjkfelnfaaGreat.AM
open Go
abbrev Ren := List (Name × (Name × Nat))
inductive Sh where
  | num (k : IntKind)
  | boo
  | str
  | lst (t : TC)
  | nul
  | ref (nm : Name)
  | own (nm : Name)
  | view (nm : Name)
  /-- A closure of that function, with these boxes. -/
  | clo (f : Nat) (caps : List Name)
  | fv (f : Nat)
  | mref (nm : Name)
inductive SSh where
  | one (s : Sh)
  | st (t : TC)
  | agg (l : List Sh)
inductive OSh where
  | box (l : List Sh)
  | boxst (t : TC)
  | arr (t : TC)
  /-- Changed in place: the header stays. -/
  | arrs (t : TC)
  | sm
def Sh.prod : Sh → Type → Type
  | .num _, X => Int × X
  | .boo, X => Bool × X
  | .str, X => ByteArray × X
  | .lst t, X => List (TT t) × X
  | .nul, X => X
  | .ref _, X => X
  | .own _, X => X
  | .view _, X => Nat × Nat × X
  | .clo _ _, X => X
  | .fv _, X => X
  | .mref _, X => X
def TL : List Sh → Type
  | [] => Unit
  | s :: r => s.prod (TL r)
def Sh.put (ver : Nat) : (s : Sh) → (X : Type) → s.prod X → BV × X
  | .num k, _, x => (.n k x.1, x.2)
  | .boo, _, x => (.b x.1, x.2)
  | .str, _, x => (.s x.1, x.2)
  | .lst t, _, x => (.ts false t x.1, x.2)
  | .nul, _, x => (.nil, x)
  | .ref nm, _, x => (.ref nm 0, x)
  | .own nm, _, x => (.own nm ver, x)
  | .view nm, _, x => (.view nm ver x.1 x.2.1, x.2.2)
  | .clo f caps, _, x => (.clo (.func f) (caps.map fun n => .ref n 0), x)
  | .fv f, _, x => (.v (.func (.func f) #[] #[]), x)
  | .mref nm, _, x => (.mref nm, x)
def TL.put (ver : Nat) : (l : List Sh) → TL l → List BV
  | [], _ => []
  | s :: r, x => (s.put ver _ x).1 :: TL.put ver r (s.put ver _ x).2
def SSh.prod : SSh → Type → Type
  | .one s, X => s.prod X
  | .st t, X => TT t × X
  | .agg l, X => TL l × X
def SSh.put (ver : Nat) : (s : SSh) → (X : Type) → s.prod X → BV × X
  | .one s, X, x => s.put ver X x
  | .st t, _, x => (.agg (tb t x.1), x.2)
  | .agg l, _, x => (.agg (TL.put ver l x.1), x.2)
def SL : List SSh → Type
  | [] => Unit
  | s :: r => s.prod (SL r)
def SL.put (ver : Nat) : (l : List SSh) → SL l → List BV
  | [], _ => []
  | s :: r, x => (s.put ver _ x).1 :: SL.put ver r (s.put ver _ x).2
def OSh.T : OSh → Type
  | .box l => TL l
  | .boxst t => TT t
  | .arr t => List (TT t)
  | .arrs t => List (TT t)
  | .sm => List (ByteArray × Bool)
def OSh.put (ver : Nat) : (o : OSh) → o.T → BO
  | .box l, x => .box (TL.put ver l x)
  | .boxst t, x => .box (tb t x)
  | .arr t, x => .arr t x ver
  | .arrs t, x => .arr t x 0
  | .sm, x => .sm x
def OL : List (Name × OSh) → Type
  | [] => Unit
  | p :: r => p.2.T × OL r
def OL.put (ver : Nat) : (l : List (Name × OSh)) → OL l → HS
  | [], _ => []
  | p :: r, x => (p.1, p.2.put ver x.1) :: OL.put ver r x.2
def STL : List (Nat × SSh) → Type
  | [] => Unit
  | p :: r => p.2.prod (STL r)
def STL.put (ver : Nat) : (l : List (Nat × SSh)) → STL l → TS
  | [], _ => []
  | p :: r, x => (p.1, (p.2.put ver _ x).1) :: STL.put ver r (p.2.put ver _ x).2
section
variable {R : Type} {r : R}
def capsGet : List Name → List BV → Ren → (Ren → Option R) → Option R
  | [], [], σ, K => K σ
  | nm :: q, .ref m off :: vs, σ, K => if Nat.beq off 0 then capsGet q vs ((nm, (m, 0)) :: σ) K else none
  | _, _, _, _ => none
def Sh.get : (s : Sh) → BV → Ren → (Ren → ((X : Type) → X → s.prod X) → Option R) → Option R
  | .num k, .n k' x, σ, K => if kEq k k' then K σ (fun _ y => (x, y)) else none
  | .boo, .b x, σ, K => K σ (fun _ y => (x, y))
  | .str, .s x, σ, K => K σ (fun _ y => (x, y))
  | .lst t, .ts _ t' l, σ, K => if h : t' = t then K σ (fun _ y => (castL h l, y)) else none
  | .lst t, .nil, σ, K => K σ (fun _ y => ([], y))
  | .nul, .nil, σ, K => K σ (fun _ y => y)
  | .ref nm, .ref m off, σ, K => if Nat.beq off 0 then K ((nm, (m, 0)) :: σ) (fun _ y => y) else none
  | .own nm, .own m u, σ, K => K ((nm, (m, u)) :: σ) (fun _ y => y)
  | .view nm, .view m u lo hi, σ, K => K ((nm, (m, u)) :: σ) (fun _ y => (lo, hi, y))
  | .clo f caps, .clo (.func f') cs, σ, K => if Nat.beq f f' then capsGet caps cs σ fun σ => K σ (fun _ y => y) else none
  | .fv f, .v (.func (.func f') ⟨[]⟩ ⟨[]⟩), σ, K => if Nat.beq f f' then K σ (fun _ y => y) else none
  | .mref nm, .mref m, σ, K => K ((nm, (m, 0)) :: σ) (fun _ y => y)
  | _, _, _, _ => none
def TL.get : (l : List Sh) → List BV → Ren → (Ren → TL l → Option R) → Option R
  | [], [], σ, K => K σ ()
  | s :: r, v :: vs, σ, K => s.get v σ fun σ f => TL.get r vs σ fun σ x => K σ (f _ x)
  | _, _, _, _ => none
def SSh.get : (s : SSh) → BV → Ren → (Ren → ((X : Type) → X → s.prod X) → Option R) → Option R
  | .one s, v, σ, K => s.get v σ K
  | .st t, .agg cs, σ, K => tpop t cs fun x rest => match rest with
    | [] => K σ (fun _ y => (x, y))
    | _ => none
  | .agg l, .agg cs, σ, K => TL.get l cs σ fun σ x => K σ (fun _ y => (x, y))
  | _, _, _, _ => none
def SL.get : (l : List SSh) → List BV → Ren → (Ren → SL l → Option R) → Option R
  | [], [], σ, K => K σ ()
  | s :: r, v :: vs, σ, K => s.get v σ fun σ f => SL.get r vs σ fun σ x => K σ (f _ x)
  | _, _, _, _ => none
def OSh.get : (o : OSh) → BO → Nat → Ren → (Ren → o.T → Option R) → Option R
  | .box l, .box cs, _, σ, K => TL.get l cs σ K
  | .boxst t, .box cs, _, σ, K => tpop t cs fun x rest => match rest with
    | [] => K σ x
    | _ => none
  | .arr t, .arr t' l q, u, σ, K => if h : t' = t then if Nat.beq q u then K σ (castL h l) else none else none
  | .arrs t, .arr t' l q, u, σ, K => if h : t' = t then if Nat.beq q u then K σ (castL h l) else none else none
  | .sm, .sm es, _, σ, K => K σ es
  | _, _, _, _, _ => none
def OL.get : (l : List (Name × OSh)) → HS → Ren → (Ren → OL l → Option R) → Option R
  | [], _, σ, K => K σ ()
  | p :: r, hs, σ, K => match look p.1 σ with
    | some m => match look m.1 hs with
      | some ob => p.2.get ob m.2 σ fun σ x => OL.get r hs σ fun σ y => K σ (x, y)
      | none => none
    | none => none
def STL.get : (l : List (Nat × SSh)) → TS → Ren → (Ren → STL l → Option R) → Option R
  | [], _, σ, K => K σ ()
  | p :: r, ts, σ, K => match look p.1 ts with
    | some v => p.2.get v σ fun σ f => STL.get r ts σ fun σ x => K σ (f _ x)
    | none => none
def Fit (rr : Name → Name) (δ : Name → Nat) (σ : Ren) : Prop := ∀ nm m, (nm, m) ∈ σ → rr nm = m.1 ∧ δ nm = m.2
def lensOf (L : Lens) (rr : Name → Name) (δ : Name → Nat) : Lens := fun n v => L (rr n) (δ n + v)
theorem Fit.mono {rr : Name → Name} {δ : Name → Nat} {σ σ' : Ren} (h : Fit rr δ σ') (hs : ∀ p, p ∈ σ → p ∈ σ') : Fit rr δ σ := fun nm m hm => h nm m (hs _ hm)
variable {L : Lens}
theorem capsGet_some : ∀ {ns : List Name} {vs : List BV} {σ : Ren} {K : Ren → Option R}, capsGet ns vs σ K = some r →
    ∃ σ', K σ' = some r ∧ (∀ p, p ∈ σ → p ∈ σ') ∧ ∀ (rr : Name → Name) (δ : Name → Nat) (L : Lens), Fit rr δ σ' → erL L vs = renL rr (erL (lensOf L rr δ) (ns.map fun n => .ref n 0))
  | [], [], σ, K, h => ⟨σ, h, fun _ hp => hp, fun rr δ L _ => by simp only [List.map_nil, erL, renL]⟩
  | [], v :: vs, σ, K, h => by simp [capsGet] at h
  | nm :: ns, [], σ, K, h => by simp [capsGet] at h
  | nm :: ns, v :: vs, σ, K, h => by
    cases v with
    | ref m off =>
      simp only [capsGet] at h
      split at h
      · rename_i ho
        have := Nat.eq_of_beq_eq_true ho; subst this
        obtain ⟨σ', h1, h2, h3⟩ := capsGet_some h
        refine ⟨σ', h1, fun p hp => h2 p (List.mem_cons_of_mem _ hp), fun rr δ L hf => ?_⟩
        simp only [List.map_cons, erL, renL, BV.er, AV.ren, (hf nm (m, 0) (h2 _ (List.mem_cons_self ..))).1, h3 rr δ L hf]
      · simp at h
    | _ => simp [capsGet] at h
theorem Sh.get_some {s : Sh} {v : BV} {σ : Ren} {K : Ren → ((X : Type) → X → s.prod X) → Option R} (h : s.get v σ K = some r) :
    ∃ σ' f, K σ' f = some r ∧ (∀ p, p ∈ σ → p ∈ σ') ∧ (∀ X (y : X), (s.put 0 X (f X y)).2 = y) ∧ ∀ X (y : X) (rr : Name → Name) (δ : Name → Nat) (L : Lens), Fit rr δ σ' → AVle (v.er L) (((s.put 0 X (f X y)).1.er (lensOf L rr δ)).ren rr) := by
  unfold Sh.get at h
  split at h
  · split at h
    · rename_i hk; have := kEq_of hk; subst this
      exact ⟨_, _, h, fun _ hp => hp, fun _ _ => rfl, fun X y rr δ L _ => by simp only [Sh.put, BV.er, AV.ren]; exact .refl _⟩
    · simp at h
  · exact ⟨_, _, h, fun _ hp => hp, fun _ _ => rfl, fun X y rr δ L _ => by simp only [Sh.put, BV.er, AV.ren]; exact .refl _⟩
  · exact ⟨_, _, h, fun _ hp => hp, fun _ _ => rfl, fun X y rr δ L _ => by simp only [Sh.put, BV.er, AV.ren]; exact .refl _⟩
  · split at h
    · rename_i he; subst he
      exact ⟨_, _, h, fun _ hp => hp, fun _ _ => rfl, fun X y rr δ L _ => by simp only [Sh.put, BV.er, AV.ren, castL]; exact .p (PVle.full _)⟩
    · simp at h
  · rename_i t K0
    exact ⟨_, _, h, fun _ hp => hp, fun _ _ => rfl, fun X y rr δ L _ => by have := nil_le t L; simp only [BV.er] at this; simp only [Sh.put, BV.er, AV.ren]; exact this⟩
  · exact ⟨_, _, h, fun _ hp => hp, fun _ _ => rfl, fun X y rr δ L _ => by simp only [Sh.put, BV.er, AV.ren]; exact .refl _⟩
  · split at h
    · rename_i nm m off σ0 K0 ho
      have := Nat.eq_of_beq_eq_true ho; subst this
      exact ⟨_, _, h, fun _ hp => List.mem_cons_of_mem _ hp, fun _ _ => rfl, fun X y rr δ L hf => by simp only [Sh.put, BV.er, AV.ren, lensOf, (hf _ _ (List.mem_cons_self ..)).1, (hf _ _ (List.mem_cons_self ..)).2, Nat.add_zero]; exact .refl _⟩
    · simp at h
  · rename_i nm m σ0 K0
    exact ⟨_, _, h, fun _ hp => List.mem_cons_of_mem _ hp, fun _ _ => rfl, fun X y rr δ L hf => by simp only [Sh.put, BV.er, AV.ren, lensOf, (hf _ _ (List.mem_cons_self ..)).1, (hf _ _ (List.mem_cons_self ..)).2, Nat.add_zero]; exact .refl _⟩
  · rename_i nm m u lo hi σ0 K0
    exact ⟨_, _, h, fun _ hp => List.mem_cons_of_mem _ hp, fun _ _ => rfl, fun X y rr δ L hf => by simp only [Sh.put, BV.er, AV.ren, lensOf, (hf _ _ (List.mem_cons_self ..)).1, (hf _ _ (List.mem_cons_self ..)).2, Nat.add_zero]; exact .refl _⟩
  · split at h
    · rename_i hk; have := Nat.eq_of_beq_eq_true hk; subst this
      obtain ⟨σ', h1, h2, h3⟩ := capsGet_some h
      exact ⟨σ', _, h1, h2, fun _ _ => rfl, fun X y rr δ L hf => by simp only [Sh.put, BV.er, AV.ren, h3 rr δ L hf, renL]; exact .refl _⟩
    · simp at h
  · split at h
    · rename_i hk; have := Nat.eq_of_beq_eq_true hk; subst this
      exact ⟨_, _, h, fun _ hp => hp, fun _ _ => rfl, fun X y rr δ L _ => by simp only [Sh.put, BV.er, AV.ren]; exact .refl _⟩
    · simp at h
  · rename_i nm m σ0 K0
    exact ⟨_, _, h, fun _ hp => List.mem_cons_of_mem _ hp, fun _ _ => rfl, fun X y rr δ L hf => by simp only [Sh.put, BV.er, AV.ren, (hf _ _ (List.mem_cons_self ..)).1]; exact .refl _⟩
  · simp at h
theorem TL.get_some : ∀ {l : List Sh} {vs : List BV} {σ : Ren} {K : Ren → TL l → Option R}, TL.get l vs σ K = some r →
    ∃ σ' x, K σ' x = some r ∧ (∀ p, p ∈ σ → p ∈ σ') ∧ ∀ (rr : Name → Name) (δ : Name → Nat) (L : Lens), Fit rr δ σ' → AVleL (erL L vs) (renL rr (erL (lensOf L rr δ) (TL.put 0 l x)))
  | [], vs, σ, K, h => by
    cases vs with
    | nil => exact ⟨_, _, h, fun _ hp => hp, fun rr δ L _ => by simp only [TL.put, erL, renL]; exact .nil⟩
    | cons v vs => simp [TL.get] at h
  | s :: l, vs, σ, K, h => by
    cases vs with
    | nil => simp [TL.get] at h
    | cons v vs =>
      simp only [TL.get] at h
      obtain ⟨σ1, f, h, hs1, hf1, g1⟩ := Sh.get_some h
      obtain ⟨σ2, x, h, hs2, g2⟩ := TL.get_some h
      refine ⟨σ2, f _ x, h, fun p hp => hs2 p (hs1 p hp), fun rr δ L hf => ?_⟩
      simp only [TL.put, erL, renL, hf1]
      exact .cons (g1 _ x rr δ L (hf.mono hs2)) (g2 rr δ L hf)
theorem tb_ren (rr : Name → Name) (L L' : Lens) (t : TC) (x : TT t) : renL rr (erL L (tb t x)) = erL L' (tb t x) := by
  rw [erL_isP (tb_isP t x), erL_isP (tb_isP t x), renL_map]
  simp only [pcells, List.map_map]
  exact List.map_congr_left fun y _ => by simp only [Function.comp, AV.ren]
theorem SSh.get_some {s : SSh} {v : BV} {σ : Ren} {K : Ren → ((X : Type) → X → s.prod X) → Option R} (h : s.get v σ K = some r) :
    ∃ σ' f, K σ' f = some r ∧ (∀ p, p ∈ σ → p ∈ σ') ∧ (∀ X (y : X), (s.put 0 X (f X y)).2 = y) ∧ ∀ X (y : X) (rr : Name → Name) (δ : Name → Nat) (L : Lens), Fit rr δ σ' → AVle (v.er L) (((s.put 0 X (f X y)).1.er (lensOf L rr δ)).ren rr) := by
  cases s with
  | one s => exact Sh.get_some h
  | st t =>
    cases v with
    | agg cs =>
      simp only [SSh.get] at h
      obtain ⟨x, l, hle, h⟩ := tpop_some t h
      split at h
      · refine ⟨_, _, h, fun _ hp => hp, fun _ _ => rfl, fun X y rr δ L _ => ?_⟩
        simp only [SSh.put, BV.er, AV.ren, tb_ren rr _ L]
        have := hle L
        rw [List.append_nil] at this
        exact .agg this
      · simp at h
    | _ => simp [SSh.get] at h
  | agg l =>
    cases v with
    | agg cs =>
      simp only [SSh.get] at h
      obtain ⟨σ', x, h, hs, g⟩ := TL.get_some h
      exact ⟨_, _, h, hs, fun _ _ => rfl, fun X y rr δ L hf => by simp only [SSh.put, BV.er, AV.ren]; exact .agg (g rr δ L hf)⟩
    | _ => simp [SSh.get] at h
theorem SL.get_some : ∀ {l : List SSh} {vs : List BV} {σ : Ren} {K : Ren → SL l → Option R}, SL.get l vs σ K = some r →
    ∃ σ' x, K σ' x = some r ∧ (∀ p, p ∈ σ → p ∈ σ') ∧ ∀ (rr : Name → Name) (δ : Name → Nat) (L : Lens), Fit rr δ σ' → AVleL (erL L vs) (renL rr (erL (lensOf L rr δ) (SL.put 0 l x)))
  | [], vs, σ, K, h => by
    cases vs with
    | nil => exact ⟨_, _, h, fun _ hp => hp, fun rr δ L _ => by simp only [SL.put, erL, renL]; exact .nil⟩
    | cons v vs => simp [SL.get] at h
  | s :: l, vs, σ, K, h => by
    cases vs with
    | nil => simp [SL.get] at h
    | cons v vs =>
      simp only [SL.get] at h
      obtain ⟨σ1, f, h, hs1, hf1, g1⟩ := SSh.get_some h
      obtain ⟨σ2, x, h, hs2, g2⟩ := SL.get_some h
      refine ⟨σ2, f _ x, h, fun p hp => hs2 p (hs1 p hp), fun rr δ L hf => ?_⟩
      simp only [SL.put, erL, renL, hf1]
      exact .cons (g1 _ x rr δ L (hf.mono hs2)) (g2 rr δ L hf)
def OLe (rr : Name → Name) (δ : Name → Nat) (u : Nat) (L : Lens) (a b : BO) : Prop := (∃ cs ds, a = .box cs ∧ b = .box ds ∧ AVleL (erL L cs) (renL rr (erL (lensOf L rr δ) ds))) ∨ (∃ t l, a = .arr t l u ∧ b = .arr t l 0) ∨ ∃ es, a = .sm es ∧ b = .sm es
theorem OSh.get_some {o : OSh} {b : BO} {u : Nat} {σ : Ren} {K : Ren → o.T → Option R} (h : o.get b u σ K = some r) :
    ∃ σ' x, K σ' x = some r ∧ (∀ p, p ∈ σ → p ∈ σ') ∧ ∀ (rr : Name → Name) (δ : Name → Nat) (L : Lens), Fit rr δ σ' → OLe rr δ u L b (o.put 0 x) := by
  cases o with
  | box l =>
    cases b with
    | box cs =>
      obtain ⟨σ', x, h, hs, g⟩ := TL.get_some h
      exact ⟨σ', x, h, hs, fun rr δ L hf => .inl ⟨_, _, rfl, rfl, g rr δ L hf⟩⟩
    | arr t l => simp [OSh.get] at h
    | sm es => simp [OSh.get] at h
  | boxst t =>
    cases b with
    | box cs =>
      simp only [OSh.get] at h
      obtain ⟨x, l, hle, h⟩ := tpop_some t h
      split at h
      · refine ⟨_, _, h, fun _ hp => hp, fun rr δ L _ => .inl ⟨_, _, rfl, rfl, ?_⟩⟩
        rw [tb_ren rr _ L]
        have := hle L
        rwa [List.append_nil] at this
      · simp at h
    | arr t l => simp [OSh.get] at h
    | sm es => simp [OSh.get] at h
  | arr t =>
    cases b with
    | box cs => simp [OSh.get] at h
    | sm es => simp [OSh.get] at h
    | arr t' l =>
      simp only [OSh.get] at h
      split at h
      · rename_i he; subst he
        split at h
        · rename_i hq
          have := Nat.eq_of_beq_eq_true hq; subst this
          exact ⟨_, _, h, fun _ hp => hp, fun rr δ L _ => .inr (.inl ⟨_, _, rfl, rfl⟩)⟩
        · simp at h
      · simp at h
  | arrs t =>
    cases b with
    | box cs => simp [OSh.get] at h
    | sm es => simp [OSh.get] at h
    | arr t' l =>
      simp only [OSh.get] at h
      split at h
      · rename_i he; subst he
        split at h
        · rename_i hq
          have := Nat.eq_of_beq_eq_true hq; subst this
          exact ⟨_, _, h, fun _ hp => hp, fun rr δ L _ => .inr (.inl ⟨_, _, rfl, rfl⟩)⟩
        · simp at h
      · simp at h
  | sm =>
    cases b with
    | sm es => exact ⟨_, _, h, fun _ hp => hp, fun rr δ L _ => .inr (.inr ⟨_, rfl, rfl⟩)⟩
    | box cs => simp [OSh.get] at h
    | arr t l => simp [OSh.get] at h
theorem OL.get_some {hs : HS} : ∀ {l : List (Name × OSh)} {σ : Ren} {K : Ren → OL l → Option R}, OL.get l hs σ K = some r →
    ∃ σ' x, K σ' x = some r ∧ (∀ p, p ∈ σ → p ∈ σ') ∧ ∀ (rr : Name → Name) (δ : Name → Nat) (L : Lens), Fit rr δ σ' → ∀ n b, look n (OL.put 0 l x) = some b → ∃ a, look (rr n) hs = some a ∧ OLe rr δ (δ n) L a b
  | [], σ, K, h => ⟨_, _, h, fun _ hp => hp, fun rr δ L _ n b hn => by change look n [] = some b at hn; simp [look] at hn⟩
  | p :: l, σ, K, h => by
    simp only [OL.get] at h
    split at h
    · rename_i m hm
      split at h
      · rename_i ob hob
        obtain ⟨σ1, x, h, hs1, g1⟩ := OSh.get_some h
        obtain ⟨σ2, y, h, hs2, g2⟩ := OL.get_some h
        refine ⟨σ2, (x, y), h, fun q hq => hs2 q (hs1 q hq), fun rr δ L hf n b hn => ?_⟩
        change look n ((p.1, p.2.put 0 x) :: OL.put 0 l y) = some b at hn
        simp only [look] at hn
        split at hn
        · rename_i e
          cases hn
          have hfm := hf p.1 m (hs2 _ (hs1 _ (look_mem hm)))
          rw [← e, hfm.1, hfm.2]
          exact ⟨ob, hob, g1 rr δ L (hf.mono hs2)⟩
        · exact g2 rr δ L hf n b hn
      · simp at h
    · simp at h
theorem STL.get_some {ts : TS} : ∀ {l : List (Nat × SSh)} {σ : Ren} {K : Ren → STL l → Option R}, STL.get l ts σ K = some r →
    ∃ σ' x, K σ' x = some r ∧ (∀ p, p ∈ σ → p ∈ σ') ∧ ∀ (rr : Name → Name) (δ : Name → Nat) (L : Lens), Fit rr δ σ' → ∀ n b, look n (STL.put 0 l x) = some b → ∃ a, look n ts = some a ∧ AVle (a.er L) ((b.er (lensOf L rr δ)).ren rr)
  | [], σ, K, h => ⟨_, _, h, fun _ hp => hp, fun rr δ L _ n b hn => by change look n [] = some b at hn; simp [look] at hn⟩
  | p :: l, σ, K, h => by
    simp only [STL.get] at h
    split at h
    · rename_i v hv
      obtain ⟨σ1, f, h, hs1, hf1, g1⟩ := SSh.get_some h
      obtain ⟨σ2, y, h, hs2, g2⟩ := STL.get_some h
      refine ⟨σ2, f _ y, h, fun q hq => hs2 q (hs1 q hq), fun rr δ L hf n b hn => ?_⟩
      change look n ((p.1, (p.2.put 0 _ (f _ y)).1) :: STL.put 0 l (p.2.put 0 _ (f _ y)).2) = some b at hn
      simp only [look, hf1] at hn
      split at hn
      · rename_i e
        cases hn
        exact ⟨v, by rw [← e]; exact hv, g1 _ y rr δ L (hf.mono hs2)⟩
      · exact g2 rr δ L hf n b hn
    · simp at h
end
end Go.Proofs.YtfhcigjkfelnfaaGreat.AM
/-
  The typed layer, part G: contracts of functions, calls. No project text.
-/
set_option linter.unusedVariables false
set_option linter.unusedSimpArgs false
namespace Go.Proofs.YtfhcigjkfelnfaaGreat.AM
open Go
mutual
def BV.ren (σ : Name → Name) (δ : Name → Nat) : BV → BV
  | .agg cs => .agg (renBL σ δ cs)
  | .tup vs => .tup (renBL σ δ vs)
  | .clo f cs => .clo f (renBL σ δ cs)
  | .ref m o => .ref (σ m) o
  | .own m u => .own (σ m) (δ m + u)
  | .aref m u i o => .aref (σ m) (δ m + u) i o
  | .view m u i o => .view (σ m) (δ m + u) i o
  | .mref m => .mref (σ m)
  | x => x
def renBL (σ : Name → Name) (δ : Name → Nat) : List BV → List BV
  | [] => []
  | x :: r => x.ren σ δ :: renBL σ δ r
end
mutual
def BV.use (p : Name → Nat → Bool) : BV → Bool
  | .agg cs => BV.useL p cs
  | .tup vs => BV.useL p vs
  | .clo _ cs => BV.useL p cs
  | .own m u => p m u
  | .aref m u _ _ => p m u
  | .view m u _ _ => p m u
  | _ => true
def BV.useL (p : Name → Nat → Bool) : List BV → Bool
  | [] => true
  | x :: r => x.use p && BV.useL p r
end
mutual
theorem ren_er {σ : Name → Name} {δ : Name → Nat} {L L' : Lens} {p : Name → Nat → Bool} (hL : ∀ n u, p n u = true → L' (σ n) (δ n + u) = L n u) : ∀ x : BV, x.use p = true → (x.er L).ren σ = (x.ren σ δ).er L'
  | .agg cs, h => by simp only [BV.use] at h; simp only [BV.er, BV.ren, AV.ren, renL_er hL cs h]
  | .tup cs, h => by simp only [BV.use] at h; simp only [BV.er, BV.ren, AV.ren, renL_er hL cs h]
  | .clo f cs, h => by simp only [BV.use] at h; simp only [BV.er, BV.ren, AV.ren, renL_er hL cs h, renL]
  | .ref _ _, _ => by simp only [BV.er, BV.ren, AV.ren]
  | .own n u, h => by simp only [BV.use] at h; simp only [BV.er, BV.ren, AV.ren, hL n u h]
  | .aref n u _ _, h => by simp only [BV.use] at h; simp only [BV.er, BV.ren, AV.ren, hL n u h]
  | .view n u _ _, h => by simp only [BV.use] at h; simp only [BV.er, BV.ren, AV.ren, hL n u h]
  | .mref _, _ => by simp only [BV.er, BV.ren, AV.ren]
  | .tep _, _ => by simp only [BV.er, BV.ren, AV.ren]
  | .any, _ => by simp only [BV.er, BV.ren, AV.ren]
  | .ub, _ => by simp only [BV.er, BV.ren, AV.ren]
  | .n _ _, _ => by simp only [BV.er, BV.ren, AV.ren]
  | .b _, _ => by simp only [BV.er, BV.ren, AV.ren]
  | .s _, _ => by simp only [BV.er, BV.ren, AV.ren]
  | .ts _ _ _, _ => by simp only [BV.er, BV.ren, AV.ren]
  | .nil, _ => by simp only [BV.er, BV.ren, AV.ren]
  | .v _, _ => by simp only [BV.er, BV.ren, AV.ren]
theorem renL_er {σ : Name → Name} {δ : Name → Nat} {L L' : Lens} {p : Name → Nat → Bool} (hL : ∀ n u, p n u = true → L' (σ n) (δ n + u) = L n u) : ∀ l : List BV, BV.useL p l = true → renL σ (erL L l) = erL L' (renBL σ δ l)
  | [], _ => by simp only [erL, renL, renBL]
  | x :: r, h => by
    simp only [BV.useL, Bool.and_eq_true] at h
    simp only [erL, renL, renBL, ren_er hL x h.1, renL_er hL r h.2]
end
def BO.ren (σ : Name → Name) (δ : Name → Nat) (k : Nat) : BO → BO
  | .box cs => .box (renBL σ δ cs)
  | .arr t l v => .arr t l (k + v)
  | .sm es => .sm es
def BO.use (p : Name → Nat → Bool) : BO → Bool
  | .box cs => BV.useL p cs
  | .arr _ _ _ => true
  | .sm _ => true
theorem renO_er {σ : Name → Name} {δ : Name → Nat} {L L' : Lens} {p : Name → Nat → Bool} (hL : ∀ n u, p n u = true → L' (σ n) (δ n + u) = L n u) (k : Nat) (o : BO) (h : o.use p = true) : (o.er L).ren σ = (o.ren σ δ k).er L' := by
  cases o with
  | box cs => simp only [BO.er, BO.ren, AO.ren, renL_er hL cs h]
  | arr t l => simp only [BO.er, BO.ren, AO.ren]
  | sm es => simp only [BO.er, BO.ren, AO.ren]
def renHB (σ : Name → Name) (δ : Name → Nat) (hs : HS) : HS := hs.map fun p => (σ p.1, p.2.ren σ δ (δ p.1))
theorem renH_er {σ : Name → Name} {δ : Name → Nat} {L L' : Lens} {p : Name → Nat → Bool} (hL : ∀ n u, p n u = true → L' (σ n) (δ n + u) = L n u) (hs : HS) (h : hs.all (fun q => q.2.use p) = true) : renH σ (erH L hs) = erH L' (renHB σ δ hs) := by
  unfold renH erH renHB
  simp only [List.map_map]
  refine List.map_congr_left fun q hq => ?_
  simp only [Function.comp, renO_er hL (δ q.1) q.2 (List.all_eq_true.1 h q hq)]
theorem look_renHB {σ : Name → Name} {δ : Name → Nat} (hσ : ∀ a b, σ a = σ b → a = b) (n : Name) : ∀ h : HS, look (σ n) (renHB σ δ h) = (look n h).map (BO.ren σ δ (δ n))
  | [] => rfl
  | (k, o) :: r => by
    show look (σ n) ((σ k, o.ren σ δ (δ k)) :: renHB σ δ r) = (look n ((k, o) :: r)).map (BO.ren σ δ (δ n))
    simp only [look]
    by_cases e : k = n
    · simp [e]
    · rw [if_neg (fun h => e (hσ _ _ h)), if_neg e]; exact look_renHB hσ n r
theorem look_renHB_inv {σ : Name → Name} {δ : Name → Nat} {m : Name} {o : BO} : ∀ {h : HS}, look m (renHB σ δ h) = some o → ∃ n, σ n = m
  | [], h => by simp [renHB, look] at h
  | (k, x) :: r, h => by
    change look m ((σ k, x.ren σ δ (δ k)) :: renHB σ δ r) = some o at h
    simp only [look] at h
    split at h
    · exact ⟨k, by assumption⟩
    · exact look_renHB_inv h
mutual
def BV.closed (ks : List Name) : BV → Bool
  | .agg cs => BV.closedL ks cs
  | .tup vs => BV.closedL ks vs
  | .clo _ cs => BV.closedL ks cs
  | .ref m _ => ks.contains m
  | .own m _ => ks.contains m
  | .aref m _ _ _ => ks.contains m
  | .view m _ _ _ => ks.contains m
  | .mref m => ks.contains m
  | _ => true
def BV.closedL (ks : List Name) : List BV → Bool
  | [] => true
  | x :: r => x.closed ks && BV.closedL ks r
end
mutual
theorem closed_er (L : Lens) (ks : List Name) : ∀ x : BV, (x.er L).closed ks = x.closed ks
  | .agg cs => by simp only [BV.er, AV.closed, BV.closed, closedL_er L ks cs]
  | .tup cs => by simp only [BV.er, AV.closed, BV.closed, closedL_er L ks cs]
  | .clo f cs => by simp only [BV.er, AV.closed, BV.closed, closedL_er L ks cs, AV.closedL, Bool.true_and]
  | .ref _ _ => by simp only [BV.er, AV.closed, BV.closed]
  | .own _ _ => by simp only [BV.er, AV.closed, BV.closed]
  | .aref _ _ _ _ => by simp only [BV.er, AV.closed, BV.closed]
  | .view _ _ _ _ => by simp only [BV.er, AV.closed, BV.closed]
  | .mref _ => by simp only [BV.er, AV.closed, BV.closed]
  | .tep _ => by simp only [BV.er, AV.closed, BV.closed]
  | .any => by simp only [BV.er, AV.closed, BV.closed]
  | .ub => by simp only [BV.er, AV.closed, BV.closed]
  | .n _ _ => by simp only [BV.er, AV.closed, BV.closed]
  | .b _ => by simp only [BV.er, AV.closed, BV.closed]
  | .s _ => by simp only [BV.er, AV.closed, BV.closed]
  | .ts _ _ _ => by simp only [BV.er, AV.closed, BV.closed]
  | .nil => by simp only [BV.er, AV.closed, BV.closed]
  | .v _ => by simp only [BV.er, AV.closed, BV.closed]
theorem closedL_er (L : Lens) (ks : List Name) : ∀ l : List BV, AV.closedL ks (erL L l) = BV.closedL ks l
  | [] => by simp only [erL, AV.closedL, BV.closedL]
  | x :: r => by simp only [erL, AV.closedL, BV.closedL, closed_er L ks x, closedL_er L ks r]
end
def BO.closed (ks : List Name) : BO → Bool
  | .box cs => BV.closedL ks cs
  | .arr _ _ _ => true
  | .sm _ => true
theorem closedO_er (L : Lens) (ks : List Name) (o : BO) : (o.er L).closed ks = o.closed ks := by cases o <;> simp only [BO.er, AO.closed, BO.closed, closedL_er]
def callB (pre h : HS) (nw : List Name) (v : BV) : Bool :=
  (keys h).all (fun n => (keys pre).contains n || nw.contains n) && nw.all (fun n => (keys h).contains n && !(keys pre).contains n) && v.closed (keys h) && h.all (fun p => p.2.closed (keys h))
theorem callB_er {L0 L1 : Lens} {pre h : HS} {nw : List Name} {v : BV} (hb : callB pre h nw v = true) : callOK (erH L0 pre) (erH L1 h) nw (v.er L1) = true := by
  unfold callB at hb
  unfold callOK
  rw [keys_erH, keys_erH, closed_er]
  have : (erH L1 h).all (fun p => p.2.closed (keys h)) = h.all (fun p => p.2.closed (keys h)) := by
    unfold erH; rw [List.all_map]; congr 1; funext p; simp only [Function.comp, closedO_er]
  rw [this]; exact hb
structure Sig where
  args : List SSh
  pre : List (Name × OSh)
  res : List SSh
  post : List (Name × OSh)
  keep : List Name
  F : (R : Type) → SL args → OL pre → (SL res → OL post → Option R) → Option R
def resB : List BV → BV
  | [v] => v
  | vs => .tup vs
def Sig.posts (g : Sig) (y : OL g.pre) (b : OL g.post) : HS := OL.put 1 g.post b ++ (OL.put 0 g.pre y).filter (fun p => g.keep.contains p.1)
def samesOf : List (Name × OSh) → List Name
  | [] => []
  | (n, .arrs _) :: r => n :: samesOf r
  | (_, .arr _) :: r => samesOf r
  | (_, .box _) :: r => samesOf r
  | (_, .boxst _) :: r => samesOf r
  | (_, .sm) :: r => samesOf r
structure FnOK (P : Program) (k : FuncId) (g : Sig) : Prop where
  nat : ∀ (R : Type) x y (K : SL g.res → OL g.post → Option R) r, g.F R x y K = some r → ∃ a b, g.F (SL g.res × OL g.post) x y (fun a b => some (a, b)) = some (a, b) ∧ K a b = some r
  spec : ∀ x y a b, g.F (SL g.res × OL g.post) x y (fun a b => some (a, b)) = some (a, b) → ∀ L0, Inv L0 (OL.put 0 g.pre y) → ∃ L1 : Lens, (∀ n, n ∈ g.keep ∨ n ∈ samesOf g.post → L1 n 0 = L0 n 0) ∧ Inv L1 (g.posts y b) ∧
    SpecIs P k (erL L0 (SL.put 0 g.args x)) (erH L0 (OL.put 0 g.pre y)) ((resB (SL.put 1 g.res a)).er L1) (erH L1 (g.posts y b))
def renOf (m : Ren) : Name → Name := fun n => match look n m with | some a => a.1 | none => n + 10000000000
def verOf (m : Ren) : Name → Nat := fun n => match look n m with | some a => a.2 | none => 0
def lookIs (n a u : Nat) : Ren → Bool
  | [] => false
  | (k, b) :: r => if Nat.beq k n then Nat.beq b.1 a && Nat.beq b.2 u else lookIs n a u r
theorem lookIs_of {n a u : Nat} : ∀ {m : Ren}, lookIs n a u m = true → look n m = some (a, u)
  | [], h => by simp [lookIs] at h
  | (k, b) :: r, h => by
    simp only [lookIs] at h
    simp only [look]
    split at h
    · rename_i e
      simp only [Bool.and_eq_true] at h
      rw [if_pos (Nat.eq_of_beq_eq_true e), ← Nat.eq_of_beq_eq_true h.1, ← Nat.eq_of_beq_eq_true h.2]
    · rename_i e; rw [if_neg (fun e' => e (by rw [e']; exact Nat.beq_refl _))]; exact lookIs_of h
def renOK (m : Ren) : Bool := m.all fun p => lookIs p.1 p.2.1 p.2.2 m && Nat.blt p.2.1 10000000000 && m.all fun q => Nat.beq p.1 q.1 || !Nat.beq p.2.1 q.2.1
theorem renOK_fit {m : Ren} (h : renOK m = true) : Fit (renOf m) (verOf m) m := fun nm a hm => by
  have := List.all_eq_true.1 h _ hm
  simp only [Bool.and_eq_true] at this
  unfold renOf verOf; rw [lookIs_of this.1.1]; exact ⟨rfl, rfl⟩
theorem renOK_inj {m : Ren} (h : renOK m = true) : ∀ a b, renOf m a = renOf m b → a = b := fun a b e => by
  unfold renOf at e
  have hb : ∀ {n x}, look n m = some x → x.1 < 10000000000 := fun {n x} hx => by
    have := List.all_eq_true.1 h _ (look_mem hx)
    simp only [Bool.and_eq_true, Nat.blt_eq] at this
    exact this.1.2
  cases ha : look a m with
  | none =>
    cases hb' : look b m with
    | none => rw [ha, hb'] at e; exact Nat.add_right_cancel e
    | some y => rw [ha, hb'] at e; have h1 : (y.1 : Nat) < 10000000000 := hb hb'; have h2 : (a : Nat) + 10000000000 = (y.1 : Nat) := e; exact absurd h1 (by rw [← h2]; exact Nat.not_lt.2 (Nat.le_add_left _ _))
  | some x =>
    cases hb' : look b m with
    | none => rw [ha, hb'] at e; have h1 : (x.1 : Nat) < 10000000000 := hb ha; have h2 : (x.1 : Nat) = (b : Nat) + 10000000000 := e; exact absurd h1 (by rw [h2]; exact Nat.not_lt.2 (Nat.le_add_left _ _))
    | some y =>
      rw [ha, hb'] at e
      simp only at e
      have := List.all_eq_true.1 h _ (look_mem ha)
      simp only [Bool.and_eq_true] at this
      have := List.all_eq_true.1 this.2 _ (look_mem hb')
      simp only [e, Nat.beq_refl, Bool.not_true, Bool.or_false] at this
      exact Nat.eq_of_beq_eq_true this
def freshOf (d : Nat) (g : Sig) : Ren := ((keys g.post).filter fun n => !(keys g.pre).contains n).map fun n => (n, (1000000 + 1000 * d + n, 0))
def arrsOf : List (Name × OSh) → List Name
  | [] => []
  | (n, .arr _) :: r => n :: arrsOf r
  | (_, .box _) :: r => arrsOf r
  | (_, .arrs _) :: r => arrsOf r
  | (_, .boxst _) :: r => arrsOf r
  | (_, .sm) :: r => arrsOf r
def hpOf (rr : Name → Name) (hs : HS) : List Name → HS
  | [] => []
  | n :: r => match look (rr n) hs with
    | some ob => (rr n, ob) :: hpOf rr hs r
    | none => hpOf rr hs r
def callEff (g : Sig) (m : Ren) (d : Nat) (hs : HS) (y : OL g.pre) (a : SL g.res) (b : OL g.post) : BEff :=
  ⟨hpOf (renOf m) hs (keys g.pre), (resB (SL.put 1 g.res a)).ren (renOf m) (verOf m), renHB (renOf m) (verOf m) (g.posts y b), (freshOf d g).map (·.2.1),
    ((arrsOf g.post).filter fun n => (keys g.pre).contains n).map fun n => (renOf m n, verOf m n + 1)⟩
def useOK (g : Sig) (n u : Nat) : Bool := match u with
  | 0 => isIn n g.keep || isIn n (samesOf g.post)
  | 1 => isIn n (arrsOf g.post)
  | _ => false
def callChk (g : Sig) (m : Ren) (d : Nat) (hs : HS) (y : OL g.pre) (a : SL g.res) (b : OL g.post) : Bool :=
  renOK m && callB (callEff g m d hs y a b).hp (callEff g m d hs y a b).upd (callEff g m d hs y a b).nw (callEff g m d hs y a b).v &&
  (resB (SL.put 1 g.res a)).use (useOK g) && (g.posts y b).all (fun q => q.2.use (useOK g)) &&
  g.keep.all (fun n => (keys g.pre).contains n && !(keys g.post).contains n)
end Go.Proofs.YtfhcigjkfelnfaaGreat.AM
/-
  The typed layer, part R: parts of lists and of arrays of ours, clear, copy, closures that are made, arrays that are values. No project text.
-/
set_option linter.unusedVariables false
set_option linter.unusedSimpArgs false
namespace Go.Proofs.YtfhcigjkfelnfaaGreat.AM
open Go
variable {L L' : Lens} {ts ts' : TS} {hs hs' : HS}
section
variable {R : Type} (P : Program) (ty : TypeId → Option TC) (rd : TS) (hs : HS) (K : BEff → Option R)
def bndB (x : Operand) (k : Nat → Option R) : Option R := match evalB rd x with
  | some (.n k' j) => if kEq .i64 k' then natc j k else none
  | _ => none
def bSlice (T : TypeId) (x : Operand) (lo hi mx : Option Operand) : Option R := match evalB rd x, elemT P T, mx with
  | some (.ts f t l), some e, none => match sizeT P e, lo, hi with
    | some es, some lo, none => if Nat.beq es (tz t) then bndB rd lo fun k => lec k l.length (K (ev (.ts f t (l.drop k)))) else none
    | some es, none, some hi => if Nat.beq es (tz t) then bndB rd hi fun m => lec m l.length (K (ev (.ts false t (l.take m)))) else none
    | some es, some lo, some hi => if Nat.beq es (tz t) then bndB rd lo fun k => bndB rd hi fun m => lec k m (lec m l.length (K (ev (.ts false t ((l.take m).drop k))))) else none
    | _, _, _ => none
  | some (.own n u), some e, none => match look n hs, sizeT P e with
    | some (.arr t l q), some es => if Nat.beq es (tz t) && Nat.beq u q then (match lo, hi with
        | some lo, none => bndB rd lo fun k => lec k l.length (K ⟨[(n, .arr t l q)], .view n u k l.length, [], [], []⟩)
        | none, some hi => bndB rd hi fun m => lec m l.length (K ⟨[(n, .arr t l q)], .view n u 0 m, [], [], []⟩)
        | _, _ => none) else none
    | _, _ => none
  | some (.view n u a b), some e, none => match look n hs, sizeT P e with
    | some (.arr t l q), some es => if Nat.beq es (tz t) && Nat.beq u q then (match lo, hi with
        | some lo, none => bndB rd lo fun k => ltc k (b - a) (K ⟨[(n, .arr t l q)], .view n u (a + k) (a + (b - a)), [], [], []⟩)
        | none, some hi => bndB rd hi fun m => lec m (b - a) (K ⟨[(n, .arr t l q)], .view n u (a + 0) (a + m), [], [], []⟩)
        | _, _ => none) else none
    | _, _ => none
  | _, _, _ => none
def bClear (T : TypeId) (x : Operand) : Option R := match evalB rd x, elemT P T with
  | some (.view n u i hi), some e => match look n hs, sizeT P e, zeroB P e with
    | some (.arr t l q), some es, some zs => if Nat.beq es (tz t) && Nat.beq zs.length es && zs.all BV.isP && Nat.beq u q then lec i hi (lec hi l.length (tpop t zs fun z rest => match rest with
        | [] => K ⟨[(n, .arr t l q)], .tup [], [(n, .arr t (l.take i ++ List.replicate (hi - i) z ++ l.drop hi) q)], [], []⟩
        | _ => none)) else none
    | _, _, _ => none
  | _, _ => none
def bCopy (T : TypeId) (x y : Operand) : Option R := match evalB rd x, evalB rd y, elemT P T with
  | some (.view n u i hi), some (.view m v j hj), some e => match look n hs, sizeT P e with
    | some (.arr t l q), some es => if Nat.beq n m && Nat.beq v q && Nat.beq es (tz t) && Nat.beq u q then chk hi l.length (chk hj l.length (lec i l.length (lec j i
        (K ⟨[(n, .arr t l q)], .n .i64 ((l.length - i : Nat) : Int), [(n, .arr t (l.take i ++ (l.drop j).take (l.length - i)) q)], [], []⟩)))) else none
    | _, _ => none
  | _, _, _ => none
def intsB : List BV → Option (List Int)
  | [] => some []
  | .n k x :: r => if kEq .i64 k then (match intsB r with | some l => some (x :: l) | none => none) else none
  | _ => none
def bCmp (op : BinOp) (T : TypeId) (a b : List BV) : Option R := match intsB a, intsB b with
  | some p, some q => if intsT P T p.length && Nat.beq q.length p.length then (match op with
      | .eql => K (ev (.b (decide (p = q))))
      | .neq => K (ev (.b (decide (p ≠ q))))
      | _ => none) else none
  | _, _ => none
def nilO : Operand → Bool
  | .const (.slice none 0 0) => true
  | _ => false
def bNil (op : BinOp) (T : TypeId) (x : BV) : Option R := match eqOp op, elemT P T, x with
  | some q, some _, .ts _ _ l => nilC l (K (ev .ub)) (K (ev (.b (!q))))
  | some q, some _, .nil => K (ev .ub)
  | _, _, _ => none
def bBin2 (op : BinOp) (T : TypeId) (x y : Operand) : Option R := match evalB rd x, evalB rd y with
  | some (.agg a), some (.agg b) => bCmp P K op T a b
  | some x, some .nil => if nilO y then bNil P K op T x else none
  | _, _ => bBin P rd K op T x y
def pickC (c : Int) : List BV → Nat → (Nat → BV → Option R) → Option R
  | [], _, _ => none
  | v :: r, i, k => cnd (decide (c = (i : Int))) (k i v) (pickC c r (i + 1) k)
def bIndexV (T : TypeId) (x y : Operand) : Option R := match evalB rd x, evalB rd y, P.underlying T with
  | some (.agg cs), some (.n k j), some (.array len e) => if kEq .i64 k && flatT P e && Nat.beq len cs.length then (match sizeT P e with
      | some 1 => pickC j cs 0 fun _ v => K (ev v)
      | _ => none) else none
  | _, _, _ => none
def bIndexBox (T : TypeId) (x y : Operand) : Option R := match evalB rd x, evalB rd y, P.underlying T with
  | some (.ref n k), some (.n _ j), some (.array len e) => match look n hs, sizeT P e with
    | some (.box cells), some es => pickC j (List.replicate len .any) 0 fun i _ => K ⟨[(n, .box cells)], .ref n (k + i * es), [], [], []⟩
    | _, _ => none
  | _, _, _ => none
def cntB (k : ByteArray) : List (ByteArray × Bool) → Nat
  | [] => 0
  | p :: r => if k = p.1 then cntB k r + 1 else cntB k r
def memB (k : ByteArray) : List (ByteArray × Bool) → Bool
  | [] => false
  | p :: r => if k = p.1 then p.2 else memB k r
def isK (P : Program) (T : TypeId) : Bool := match P.underlying T with
  | some (.map K E) => (match P.underlying K with | some .string => true | _ => false) && (match zeroV P E with | some (.bool false) => true | _ => false)
  | _ => false
def bMakeMap (d : Option Nat) (T : TypeId) : Option R := match d with
  | some d => if isK P T then K ⟨[], .mref (1000 + d), [(1000 + d, .sm [])], [1000 + d], []⟩ else none
  | none => none
def bLookup (T : TypeId) (x y : Operand) : Option R := match evalB rd x, evalB rd y with
  | some (.mref n), some (.s k) => match look n hs with
    | some (.sm es) => if isK P T then K ⟨[(n, .sm es)], .b (memB k es), [], [], []⟩ else none
    | _ => none
  | _, _ => none
def bPutM (d : Option Nat) (T : TypeId) (x y z : Operand) : Option R := match d, evalB rd x, evalB rd y, evalB rd z with
  | none, some (.mref n), some (.s k), some (.b v) => match look n hs with
    | some (.sm es) => if isK P T then chk (cntB k es) 0 (K ⟨[(n, .sm es)], .any, [(n, .sm (es ++ [(k, v)]))], [], []⟩) else none
    | _ => none
  | _, _, _, _ => none
def flatB : BV → Bool
  | .agg _ => false
  | .tup _ => false
  | _ => true
def bFunc (fn : Fn) (first caps : Array Operand) : Option R := match first.toList, evalBs rd caps.toList with
  | [], some cs => if cs.all flatB then K (ev (.clo fn cs)) else none
  | _, _ => none
end
section
variable {R : Type} {P : Program} {ty : TypeId → Option TC} {rd : TS} {K : BEff → Option R} {r : R} {o : Oper}
theorem bndB_some {x : Operand} {k : Nat → Option R} (h : bndB rd x k = some r) : ∃ i : Nat, evalB rd x = some (.n .i64 (i : Int)) ∧ k i = some r := by
  unfold bndB at h
  split at h
  · rename_i k' j hx
    split at h
    · rename_i hk
      have := kEq_of hk; subst this
      obtain ⟨i, rfl, h⟩ := natc_some h
      exact ⟨i, hx, h⟩
    · simp at h
  · simp at h
theorem optB_of {x : Operand} {i d : Nat} (h : evalB rd x = some (.n .i64 (i : Int))) (L : Lens) : optB (erT L rd) d (some x) = some (i : Int) := by
  have := evalB_er L h
  simp only [BV.er] at this
  simp only [optB, this]
theorem Good.wrArrV {n : Name} {t : TC} {l l' : List (TT t)} {q : Nat} {v : BV} (hc : look n hs = some (.arr t l q)) (hl : l'.length = l.length) (h : ∀ L, Inv L hs → OpOK P o ⟨erT L rd, [(n, .arr (tz t) (l.map (tcells t)))], v.er L, [(n, .arr (tz t) (l'.map (tcells t)))], []⟩) : Good P o rd hs ⟨[(n, .arr t l q)], v, [(n, .arr t l' q)], [], []⟩ :=
  ⟨hp1 hc, fun L hL => ⟨L, fun _ _ _ _ => rfl, fun m t' l2 u hm => by
    simp only [List.cons_append, List.nil_append, look] at hm
    split at hm
    · rename_i e; subst e; cases hm; rw [hl]; exact hL _ t l q hc
    · exact hL m t' l2 u hm, h L hL⟩⟩
theorem bSlice_ok {T : TypeId} {x : Operand} {lo hi mx : Option Operand} (ho : o.op = .slice T x lo hi mx) (h : bSlice P rd hs K T x lo hi mx = some r) : Does P o rd hs K r := by
  unfold bSlice at h
  split at h
  · rename_i f t l e hx he
    split at h
    · rename_i es lo hz
      split at h
      · rename_i hb
        have := Nat.eq_of_beq_eq_true hb; subst this
        obtain ⟨k, hk, h⟩ := bndB_some h
        obtain ⟨hkl, h⟩ := lec_some h
        refine ⟨_, h, .ev fun L _ => ?_⟩
        have h1 := evalB_er L hx
        have h2 := evalB_er L hk
        simp only [BV.er] at h1 h2 ⊢
        exact OpOK.sliceLo ho (elemT_spec he) hz h1 h2 rfl (by rw [List.length_map]; exact hkl) (by rw [List.map_drop])
      · simp at h
    · rename_i es hi hz
      split at h
      · rename_i hb
        have := Nat.eq_of_beq_eq_true hb; subst this
        obtain ⟨m, hm, h⟩ := bndB_some h
        obtain ⟨hml, h⟩ := lec_some h
        refine ⟨_, h, .ev fun L _ => ?_⟩
        have h1 := evalB_er L hx
        simp only [BV.er] at h1 ⊢
        have := OpOK.sliceP (P := P) (o := o) (k := 0) (m := m) ho (elemT_spec he) hz h1 (by simp [optB]) (optB_of hm L) (Nat.zero_le _) (by rw [List.length_map]; exact hml)
        rw [List.drop_zero, ← List.map_take] at this
        exact this
      · simp at h
    · rename_i es lo hi hz
      split at h
      · rename_i hb
        have := Nat.eq_of_beq_eq_true hb; subst this
        obtain ⟨k, hk, h⟩ := bndB_some h
        obtain ⟨m, hm, h⟩ := bndB_some h
        obtain ⟨hkm, h⟩ := lec_some h
        obtain ⟨hml, h⟩ := lec_some h
        refine ⟨_, h, .ev fun L _ => ?_⟩
        have h1 := evalB_er L hx
        simp only [BV.er] at h1 ⊢
        have := OpOK.sliceP (P := P) (o := o) (k := k) (m := m) ho (elemT_spec he) hz h1 (optB_of hk L) (optB_of hm L) hkm (by rw [List.length_map]; exact hml)
        rw [← List.map_take, ← List.map_drop] at this
        exact this
      · simp at h
    · simp at h
  · rename_i n u e hx he
    split at h
    · rename_i t l q es hc hz
      split at h
      · rename_i hb
        simp only [Bool.and_eq_true] at hb
        have := Nat.eq_of_beq_eq_true hb.1; subst this
        have hlen : ∀ {L : Lens}, Inv L hs → L n u = l.length := fun hL => by rw [Nat.eq_of_beq_eq_true hb.2]; exact hL n t l q hc
        split at h
        · rename_i lo
          obtain ⟨k, hk, h⟩ := bndB_some h
          obtain ⟨hkl, h⟩ := lec_some h
          refine ⟨_, h, .val (hp1 hc) fun L hL => ?_⟩
          have h1 := evalB_er L hx
          simp only [BV.er] at h1 ⊢
          exact OpOK.sliceView ho (elemT_spec he) hz h1 (optB_of hk L) (by simp [optB, hlen hL]) (arr_len hL hc hb.2) hkl (by rw [List.length_map]; exact Nat.le_refl _)
        · rename_i hi
          obtain ⟨m, hm, h⟩ := bndB_some h
          obtain ⟨hml, h⟩ := lec_some h
          refine ⟨_, h, .val (hp1 hc) fun L hL => ?_⟩
          have h1 := evalB_er L hx
          simp only [BV.er] at h1 ⊢
          exact OpOK.sliceView ho (elemT_spec he) hz h1 (by simp [optB]) (optB_of hm L) (arr_len hL hc hb.2) (Nat.zero_le _) (by rw [List.length_map]; exact hml)
        · simp at h
      · simp at h
    · simp at h
  · rename_i n u a b e hx he
    split at h
    · rename_i t l q es hc hz
      split at h
      · rename_i hb
        simp only [Bool.and_eq_true] at hb
        have := Nat.eq_of_beq_eq_true hb.1; subst this
        split at h
        · rename_i lo
          obtain ⟨k, hk, h⟩ := bndB_some h
          obtain ⟨hkl, h⟩ := ltc_some h
          refine ⟨_, h, .val (hp1 hc) fun L hL => ?_⟩
          have h1 := evalB_er L hx
          simp only [BV.er] at h1 ⊢
          exact OpOK.sliceView2 ho (elemT_spec he) hz h1 (optB_of hk L) (by simp [optB]) (arr_len hL hc hb.2) (Nat.le_of_lt hkl) (Nat.le_refl _) (.inr (.inr hkl))
        · rename_i hi
          obtain ⟨m, hm, h⟩ := bndB_some h
          obtain ⟨hml, h⟩ := lec_some h
          refine ⟨_, h, .val (hp1 hc) fun L hL => ?_⟩
          have h1 := evalB_er L hx
          simp only [BV.er] at h1 ⊢
          exact OpOK.sliceView2 (k := 0) ho (elemT_spec he) hz h1 (by simp [optB]) (optB_of hm L) (arr_len hL hc hb.2) (Nat.zero_le _) hml (.inr (.inl rfl))
        · simp at h
      · simp at h
    · simp at h
  · simp at h
theorem pureL_of {T : TypeId} {cs : List BV} (h : zeroB P T = some cs) (hp : cs.all BV.isP = true) : zeroRow P T = some (pvL cs) := by
  unfold zeroRow
  rw [zeroB_er (fun _ _ => 0) h]
  simp only
  exact pureL_pv _ hp
theorem bClear_ok {T : TypeId} {x : Operand} {ats : Array TypeId} (ho : o.op = .call { callee := .builtin .clear, args := #[x], argTypes := ats }) (hat : ats[0]? = some T) (h : bClear P rd hs K T x = some r) : Does P o rd hs K r := by
  unfold bClear at h
  split at h
  case h_2 => simp at h
  rename_i n u i hi e hx he
  split at h
  case h_2 => simp at h
  rename_i t l q es zs hc hz hzs
  split at h
  case isFalse => simp at h
  rename_i hb
  simp only [Bool.and_eq_true] at hb
  have := Nat.eq_of_beq_eq_true hb.1.1.1; subst this
  obtain ⟨hih, h⟩ := lec_some h
  obtain ⟨hil, h⟩ := lec_some h
  obtain ⟨z, rest, hle, h⟩ := tpop_some t h
  split at h
  case h_2 => simp at h
  refine ⟨_, h, .wrArrV hc (by simp; omega) fun L hL => ?_⟩
  have h1 := evalB_er L hx
  have hlen : L n u = l.length := by rw [Nat.eq_of_beq_eq_true hb.2]; exact hL n t l q hc
  simp only [BV.er, erL] at h1 ⊢
  have hcs := Le_cells hle hb.1.2
  refine OpOK.arrLe (OpOK.clearView (P := P) (rows := l.map (tcells t)) (i := i) (m := hi) ho hat (elemT_spec he) hz (pureL_of hzs hb.1.2) (by rw [pvL_length]; exact Nat.eq_of_beq_eq_true hb.1.1.2) h1 (arr_len hL hc hb.2) hih (by rw [List.length_map]; exact hil) rfl) ?_
  rw [List.map_append, List.map_append, List.map_take, List.map_drop, List.map_replicate]
  refine RowsLe.append (RowsLe.append (RowsLe.refl _) (RowsLe.nth (by simp) fun j a b ha hb => ?_)) (RowsLe.refl _)
  rw [List.getElem?_replicate] at ha hb
  split at ha
  · rename_i hj
    rw [if_pos hj] at hb
    cases ha; cases hb; exact hcs
  · simp at ha
theorem bCopy_ok {T : TypeId} {x y : Operand} (ho : o.op = .call { callee := .builtin .copy, args := #[x, y], argTypes := #[T, T] }) (h : bCopy P rd hs K T x y = some r) : Does P o rd hs K r := by
  unfold bCopy at h
  split at h
  case h_2 => simp at h
  rename_i n u i hi m v j hj e hx hy he
  split at h
  case h_2 => simp at h
  rename_i t l q es hc hz
  split at h
  case isFalse => simp at h
  rename_i hb
  simp only [Bool.and_eq_true] at hb
  have := Nat.eq_of_beq_eq_true hb.1.1.1; subst this
  have := Nat.eq_of_beq_eq_true hb.1.2; subst this
  replace h := chk_some h
  obtain ⟨e1, h⟩ := h
  subst e1
  replace h := chk_some h
  obtain ⟨e2, h⟩ := h
  subst e2
  obtain ⟨hil, h⟩ := lec_some h
  obtain ⟨hji, h⟩ := lec_some h
  have huv : v = u := by rw [Nat.eq_of_beq_eq_true hb.1.1.2, Nat.eq_of_beq_eq_true hb.2]
  subst huv
  refine ⟨_, h, .wrArrV hc (by simp; omega) fun L hL => ?_⟩
  have h1 := evalB_er L hx
  have h2 := evalB_er L hy
  have hlen : L n v = l.length := by rw [Nat.eq_of_beq_eq_true hb.2]; exact hL n t l q hc
  simp only [BV.er] at h1 h2 ⊢
  exact OpOK.copyView (rows := l.map (tcells t)) ho rfl (elemT_spec he) hz (by rw [h1, hlen]) (by rw [h2, hlen]) (arr_len hL hc hb.2) (by rw [List.length_map]; exact hil) hji (by rw [List.map_append, List.map_take, List.map_take, List.map_drop, List.length_map]) (by rw [List.length_map])
theorem isK_some {T : TypeId} (h : isK P T = true) : ∃ K E, P.underlying T = some (.map K E) ∧ P.underlying K = some .string ∧ zeroV P E = some (.bool false) := by
  unfold isK at h
  split at h
  · rename_i K E hT
    simp only [Bool.and_eq_true] at h
    obtain ⟨h1, h2⟩ := h
    split at h1
    · rename_i hK
      split at h2
      · rename_i hE; exact ⟨K, E, hT, hK, hE⟩
      · simp at h2
    · simp at h1
  · simp at h
theorem memB_look (k : ByteArray) : ∀ es : List (ByteArray × Bool), (lookS k (es.map fun p => (p.1, Value.bool p.2))).getD (.bool false) = .bool (memB k es)
  | [] => rfl
  | p :: r => by
    simp only [List.map_cons, lookS, memB]
    split
    · rfl
    · exact memB_look k r
theorem cntB_look (k : ByteArray) : ∀ es : List (ByteArray × Bool), cntB k es = 0 → lookS k (es.map fun p => (p.1, Value.bool p.2)) = none
  | [], _ => rfl
  | p :: r, h => by
    simp only [cntB] at h
    simp only [List.map_cons, lookS]
    split at h
    · omega
    · rename_i e; rw [if_neg e]; exact cntB_look k r h
theorem Inv.sm {L : Lens} {n : Name} {es : List (ByteArray × Bool)} (hL : Inv L hs) : Inv L ((n, .sm es) :: hs) := fun m t l u hm => by
  simp only [look] at hm
  split at hm
  · cases hm
  · exact hL m t l u hm
theorem bMakeMap_ok {T : TypeId} (ho : o.op = .makeMap T none) (h : bMakeMap P K o.dst T = some r) : Does P o rd hs K r := by
  unfold bMakeMap at h
  split at h
  · rename_i d hd
    split at h
    · refine ⟨_, h, fun _ _ h => by simp at h, fun L hL => ⟨L, fun _ _ _ _ => rfl, Inv.sm hL, ?_⟩⟩
      have := OpOK.makeMap (P := P) (o := o) (rd := erT L rd) (n := 1000 + d) ho
      simpa only [BV.er, erH, List.map_cons, List.map_nil, BO.er] using this
    · simp at h
  · simp at h
theorem bLookup_ok {T : TypeId} {x y : Operand} (ho : o.op = .lookup T x y false) (h : bLookup P rd hs K T x y = some r) : Does P o rd hs K r := by
  unfold bLookup at h
  split at h
  · rename_i n k hx hy
    split at h
    · rename_i es hc
      split at h
      · rename_i hk
        obtain ⟨Kt, E, h1, h2, h3⟩ := isK_some hk
        refine ⟨_, h, .val (hp1 hc) fun L hL => ?_⟩
        have k1 := evalB_er L hx
        have k2 := evalB_er L hy
        simp only [BV.er] at k1 k2 ⊢
        exact OpOK.lookup ho h1 h2 h3 k1 k2 (memB_look k es) rfl
      · simp at h
    · simp at h
  · simp at h
theorem bPutM_ok {T : TypeId} {x y z : Operand} (ho : o.op = .mapUpdate T x y z) (h : bPutM P rd hs K o.dst T x y z = some r) : Does P o rd hs K r := by
  unfold bPutM at h
  split at h
  · rename_i n k v hd hx hy hz
    split at h
    · rename_i es hc
      split at h
      · rename_i hk
        obtain ⟨Kt, E, h1, h2, h3⟩ := isK_some hk
        obtain ⟨h0, h⟩ := chk_some h
        refine ⟨_, h, hp1 hc, fun L hL => ⟨L, fun _ _ _ _ => rfl, Inv.sm hL, ?_⟩⟩
        have k1 := evalB_er L hx
        have k2 := evalB_er L hy
        have k3 := evalB_er L hz
        simp only [BV.er] at k1 k2 k3 ⊢
        have := OpOK.putS (P := P) (o := o) (rd := erT L rd) hd (.inl ho) h1 h2 k1 k2 k3 (cntB_look k es h0) (by rw [show es.map (fun p => (p.1, Value.bool p.2)) ++ [(k, Value.bool v)] = (es ++ [(k, v)]).map fun p => (p.1, Value.bool p.2) from by simp])
        simpa only [erH, List.map_cons, List.map_nil, BO.er] using this
      · simp at h
    · simp at h
  · simp at h
theorem flatB_er {x : BV} (h : flatB x = true) (L : Lens) : flatAV (x.er L) = true := by
  cases x <;> simp only [flatB, BV.er, flatAV, Bool.false_eq_true] at h ⊢
theorem bFunc_ok {fn : Fn} {first caps : Array Operand} (ho : o.op = .makeFunc fn first caps) (h : bFunc rd K fn first caps = some r) : Does P o rd hs K r := by
  unfold bFunc at h
  split at h
  · rename_i cs hf hcs
    split at h
    · rename_i hall
      refine ⟨_, h, .ev fun L _ => ?_⟩
      simp only [BV.er]
      refine OpOK.makeFunc ho (by rw [hf]; rfl) (evalBs_er L hcs) rfl ?_
      rw [erL_map, List.all_map]
      exact List.all_eq_true.2 fun c hc => flatB_er (List.all_eq_true.1 hall c hc) L
    · simp at h
  · simp at h
theorem pickC_some {c : Int} : ∀ {cs : List BV} {i : Nat} {k : Nat → BV → Option R}, pickC c cs i k = some r → ∃ j v, cs[j]? = some v ∧ c = ((i + j : Nat) : Int) ∧ k (i + j) v = some r
  | [], i, k, h => by simp [pickC] at h
  | v :: q, i, k, h => by
    simp only [pickC] at h
    rcases cnd_some h with ⟨e, h⟩ | ⟨e, h⟩
    · exact ⟨0, v, rfl, by simpa using e, h⟩
    · obtain ⟨j, v', h1, h2, h3⟩ := pickC_some h
      exact ⟨j + 1, v', by simpa using h1, by rw [h2]; congr 1; omega, by rw [show i + (j + 1) = i + 1 + j by omega]; exact h3⟩
theorem bIndexV_ok {T : TypeId} {x y : Operand} (ho : o.op = .index T x y) (h : bIndexV P rd K T x y = some r) : Does P o rd hs K r := by
  unfold bIndexV at h
  split at h
  · rename_i cs k j len e hx hy hT
    split at h
    · rename_i hb
      simp only [Bool.and_eq_true] at hb
      have := kEq_of hb.1.1; subst this
      split at h
      · rename_i hz
        obtain ⟨i, v, h1, h2, h⟩ := pickC_some h
        refine ⟨_, h, .ev fun L _ => ?_⟩
        have k1 := evalB_er L hx
        have k2 := evalB_er L hy
        simp only [BV.er, h2, Nat.zero_add] at k1 k2
        have hi := (List.getElem?_eq_some_iff.1 h1).1
        exact OpOK.indexV ho hT hz hb.1.2 k1 k2 (by rw [Nat.eq_of_beq_eq_true hb.2]; exact hi) (by rw [erL_get, h1]; rfl)
      · simp at h
    · simp at h
  · simp at h
theorem bIndexBox_ok {T : TypeId} {x y : Operand} (ho : o.op = .indexAddr T x y) (h : bIndexBox P rd hs K T x y = some r) : Does P o rd hs K r := by
  unfold bIndexBox at h
  split at h
  · rename_i n k k' j len e hx hy hT
    split at h
    · rename_i cells es hc hz
      obtain ⟨i, v, h1, h2, h⟩ := pickC_some h
      refine ⟨_, h, .val (hp1 hc) fun L _ => ?_⟩
      have k1 := evalB_er L hx
      simp only [BV.er] at k1 ⊢
      rw [Nat.zero_add] at h2
      have hi := (List.getElem?_eq_some_iff.1 h1).1
      rw [List.length_replicate] at hi
      exact OpOK.indexArr ho hT hz k1 (evalB_n L hy) h2 hi (by rw [Nat.zero_add])
    · simp at h
  · simp at h
theorem intsB_er (L : Lens) : ∀ {cs : List BV} {l : List Int}, intsB cs = some l → erL L cs = l.map fun a => .p (.v (.int .i64 a))
  | [], l, h => by simp only [intsB, Option.some.injEq] at h; subst h; simp only [erL, List.map_nil]
  | c :: r, l, h => by
    cases c with
    | n k x =>
      simp only [intsB] at h
      split at h
      · rename_i hk
        have := kEq_of hk; subst this
        split at h
        · rename_i l' hl; cases h; simp only [erL, BV.er, List.map_cons, intsB_er L hl]
        · simp at h
      · simp at h
    | _ => simp [intsB] at h
theorem bNil_ok {op : BinOp} {T T' : TypeId} {x : Operand} {v : BV} (ho : o.op = .binOp op T x (.const (.slice none 0 0)) T') (hx : evalB rd x = some v) (h : bNil P K op T v = some r) : Does P o rd hs K r := by
  unfold bNil at h
  split at h
  · rename_i q e f t l hq he
    rcases nilC_some h with ⟨_, h⟩ | ⟨hl, h⟩
    · refine ⟨_, h, .ev fun L _ => ?_⟩
      have h1 := evalB_er L hx
      simp only [BV.er] at h1 ⊢
      exact OpOK.eqNilU ho hq (elemT_spec he) h1
    · refine ⟨_, h, .ev fun L _ => ?_⟩
      have h1 := evalB_er L hx
      simp only [BV.er] at h1 ⊢
      exact OpOK.eqNilN ho hq (elemT_spec he) h1 (by simpa using hl)
  · rename_i q e hq he
    refine ⟨_, h, .ev fun L _ => ?_⟩
    have h1 := evalB_er L hx
    simp only [BV.er] at h1 ⊢
    exact OpOK.eqNilU ho hq (elemT_spec he) h1
  · simp at h
theorem bBin2_ok {op : BinOp} {T T' : TypeId} {x y : Operand} (ho : o.op = .binOp op T x y T') (h : bBin2 P rd K op T x y = some r) : Does P o rd hs K r := by
  unfold bBin2 at h
  split at h
  · rename_i a b hx hy
    unfold bCmp at h
    split at h
    · rename_i p q hp hq
      split at h
      · rename_i hb
        simp only [Bool.and_eq_true] at hb
        have k1 : ∀ L, evalO (erT L rd) x = some (.agg (p.map fun a => .p (.v (.int .i64 a)))) := fun L => by have := evalB_er L hx; rw [this]; simp only [BV.er, intsB_er L hp]
        have k2 : ∀ L, evalO (erT L rd) y = some (.agg (q.map fun a => .p (.v (.int .i64 a)))) := fun L => by have := evalB_er L hy; rw [this]; simp only [BV.er, intsB_er L hq]
        split at h
        · exact ⟨_, h, .ev fun L _ => by simp only [BV.er]; exact OpOK.eqlInts ho hb.1 hb.2 (k1 L) (k2 L) rfl⟩
        · exact ⟨_, h, .ev fun L _ => by simp only [BV.er]; exact OpOK.neqInts ho hb.1 hb.2 (k1 L) (k2 L) rfl⟩
        · simp at h
      · simp at h
    · simp at h
  · rename_i v hx hy
    split at h
    · rename_i hn
      unfold nilO at hn
      split at hn
      · exact bNil_ok ho hx h
      · simp at hn
    · simp at h
  · exact bBin_ok ho h
end
end Go.Proofs.YtfhcigjkfelnfaaGreat.AM
/-
  The typed layer, part H: one operation, with what goes ahead of it and what follows. No project text.
-/
set_option linter.unusedVariables false
set_option linter.unusedSimpArgs false
namespace Go.Proofs.YtfhcigjkfelnfaaGreat.AM
open Go
variable {L L' : Lens} {ts ts' : TS} {hs hs' : HS}
section
variable {R : Type} (P : Program) (ty : TypeId → Option TC) (rd : TS) (hs : HS) (K : BEff → Option R)
def bMax (x y : Operand) : Option R := match evalB rd x, evalB rd y with
  | some (.n k a), some (.n k' b) => if kEq .i64 k && kEq .i64 k' then K (ev (.n .i64 (max a b))) else none
  | _, _ => none
def bMin (x y : Operand) : Option R := match evalB rd x, evalB rd y with
  | some (.n k a), some (.n k' b) => if kEq .i64 k && kEq .i64 k' then K (ev (.n .i64 (min a b))) else none
  | _, _ => none
def bCallB (d : Option Nat) (c : Call) : Option R := match c.callee, c.args.toList, c.argTypes.toList with
  | .builtin .len, [x], [T] => bLen P rd hs K T x
  | .builtin .append, [x, y], [T, T'] => if Nat.beq T T' then bAppend P ty rd hs K d T x y else none
  | .builtin .max, [x, y], _ => bMax rd K x y
  | .builtin .min, [x, y], _ => bMin rd K x y
  | .builtin .clear, [x], [T] => bClear P rd hs K T x
  | .builtin .copy, [x, y], [T, T'] => if Nat.beq T T' then bCopy P rd hs K T x y else none
  | _, _, _ => none
def growLit : List (Nat × Operand) → Bool
  | [(_, .const (.int .i64 (.ofNat 0)))] => true
  | _ => false
def bBuildOwn (d : Option Nat) (T : TypeId) (len : Nat) (parts : Array (Nat × Operand)) : Option R := match d, elemT P T with
  | some d, some e => match ty e, sizeT P e, zeroRow P e with
    | some t, some es, some zr => if Nat.beq es (tz t) && Nat.ble 1 es && Nat.beq zr.length es && Nat.ble (len * es) 16777216 then rowsC rd t parts.toList 0 len fun l => K ⟨[], .own (1000 + d) 0, [(1000 + d, .arr t l 0)], [1000 + d], []⟩ else none
    | _, _, _ => none
  | _, _ => none
def bop (o : Oper) : Option R := match o.op with
  | .move x => bVal rd K x
  | .assign x => bVal rd K x
  | .pick c x y => bPick rd K c x y
  | .alloc T => bAlloc P K o.dst T
  | .box _ x => bBox rd K o.dst x
  | .build T parts => bBuild P rd K T parts
  | .buildSlice T len parts => if growLit parts.toList then bBuildOwn P ty rd K o.dst T len parts else bBuildSlice P ty rd K T len parts
  | .load T x => bLoad P rd hs K T x
  | .store T x y => bStore P rd hs K o.dst T x y
  | .fieldAddr S x i => bFieldAddr P rd hs K S x i
  | .nilCheck x => bNilCheck rd hs K x
  | .binOp op T x y _ => bBin2 P rd K op T x y
  | .unOp op _ x => bUn rd K op x
  | .field T x i => bField P rd K T x i
  | .extract x i => bExtract rd K x i
  | .indexAddr T x y => match P.underlying T with
    | some (.array _ _) => bIndexBox P rd hs K T x y
    | _ => bIndexAddr P rd hs K T x y
  | .index T x y => match P.underlying T with
    | some (.array _ _) => bIndexV P rd K T x y
    | _ => bIndexS P rd K T x y
  | .convert S T x => bConv P rd K S T x
  | .slice T x lo hi mx => bSlice P rd hs K T x lo hi mx
  | .makeFunc fn first caps => bFunc rd K fn first caps
  | .makeMap T none => bMakeMap P K o.dst T
  | .lookup T x y false => bLookup P rd hs K T x y
  | .mapUpdate T x y z => bPutM P rd hs K o.dst T x y z
  | .call c => bCallB P ty rd hs K o.dst c
  | _ => none
end
section
variable {R : Type} {P : Program} {ty : TypeId → Option TC} {rd : TS} {K : BEff → Option R} {r : R} {o : Oper}
theorem srcB_some {t0 : TC} {y : BV} {K : List (TT t0) → Option R} (h : srcB t0 y K = some r) : ∃ f l, y = .ts f t0 l ∧ K l = some r := by
  unfold srcB at h
  split at h
  · split at h
    · rename_i he; subst he; exact ⟨_, _, rfl, h⟩
    · simp at h
  · simp at h
theorem bBuildOwn_ok {T : TypeId} {len : Nat} {parts : Array (Nat × Operand)} (ho : o.op = .buildSlice T len parts) (h : bBuildOwn P ty rd K o.dst T len parts = some r) : Does P o rd hs K r := by
  unfold bBuildOwn at h
  split at h
  · rename_i d e hd he
    split at h
    · rename_i t es zr h0 h1 h2
      split at h
      · rename_i hb
        simp only [Bool.and_eq_true] at hb
        obtain ⟨l, g1, g2, g3⟩ := rowsC_some h
        have hes := Nat.eq_of_beq_eq_true hb.1.1.1
        subst hes
        refine ⟨_, g1, .new (fun L m u => if m = 1000 + d then l.length else L m u) (fun L m u hm => if_neg hm) (fun L _ t' l2 u hl => by cases hl; exact if_pos rfl) fun L hL => ?_⟩
        obtain ⟨rows, k1, k2⟩ := g3 L [] (List.replicate len zr) rfl (by rw [List.length_replicate]; omega)
        simp only [List.nil_append] at k1
        simp only [BV.er, BO.er, if_true]
        have hl : rows.length = l.length := by have := k2.length; rwa [List.length_map] at this
        exact (OpOK.buildOwn ho he h1 hb.1.1.2 h2 (Nat.eq_of_beq_eq_true hb.1.2) hb.2 k1 hl).arrLe k2
      · simp at h
    · simp at h
  · simp at h
theorem bAppend_ok {T : TypeId} {x y : Operand} (ho : o.op = .call { callee := .builtin .append, args := #[x, y], argTypes := #[T, T] }) (h : bAppend P ty rd hs K o.dst T x y = some r) : Does P o rd hs K r := by
  have hlim : ∀ {a b bytes : Nat}, a + b ≤ 34359738368 → Nat.ble bytes 4096 = true → (a + b) * bytes ≤ 140737488355328 ∧ a + b ≤ 140737488355328 := fun {a b bytes} h1 h2 => by
    have := Nat.mul_le_mul h1 (Nat.le_of_ble_eq_true h2)
    exact ⟨by omega, by omega⟩
  unfold bAppend at h
  split at h
  · rename_i n u v e hx hy he
    split at h
    · rename_i t l q es bytes hc hz hby
      split at h
      · rename_i hb
        simp only [Bool.and_eq_true] at hb
        have := Nat.eq_of_beq_eq_true hb.1.1.1; subst this
        have hq := hb.2
        have hb := hb.1
        obtain ⟨f, l', hv, h0⟩ := srcB_some h
        subst hv; clear h
        obtain ⟨hle, h⟩ := lec_some h0
        refine ⟨_, h, hp1 hc, fun L hL => ?_⟩
        let L' : Lens := fun m u => if m = n ∧ u = q + 1 then (l ++ l').length else L m u
        have hn : L' n (q + 1) = (l ++ l').length := if_pos ⟨rfl, rfl⟩
        refine ⟨L', fun m u _ hm => if_neg (by simpa using hm), fun m t2 l2 u2 hm => ?_, ?_⟩
        · simp only [List.cons_append, List.nil_append, look] at hm
          split at hm
          · rename_i e; subst e; cases hm; exact hn
          · rename_i e; show (if m = n ∧ u2 = q + 1 then _ else L m u2) = _; rw [if_neg (fun h => e h.1.symm)]; exact hL m t2 l2 u2 hm
        · have h1 := evalB_er L hx
          have h2 := evalB_er L hy
          simp only [BV.er] at h1 h2 ⊢
          rw [hn]
          have hlm : (l.map (tcells t)).length + (l'.map (tcells t)).length ≤ 34359738368 := by simpa using hle
          exact OpOK.appendOwn ho rfl he hb.1.2 h1 (arr_len hL hc hq) h2 (by rw [← List.map_append]) (by rw [List.length_map]) (hlim hlm hb.2).1 (hlim hlm hb.2).2
      · simp at h
    · simp at h
  · rename_i v e hx hy he
    split at h
    · rename_i d t es bytes hd hty hz hby
      split at h
      · rename_i hb
        simp only [Bool.and_eq_true] at hb
        have := Nat.eq_of_beq_eq_true hb.1.1.1; subst this
        obtain ⟨f, l', hv, h0⟩ := srcB_some h
        subst hv; clear h
        obtain ⟨hle, h⟩ := lec_some h0
        refine ⟨_, h, .new (fun L m u => if m = 1000 + d then l'.length else L m u) (fun L m u hm => if_neg hm) (fun L _ t' l2 u hl => by cases hl; exact if_pos rfl) fun L hL => ?_⟩
        have h1 := evalB_er L hx
        have h2 := evalB_er L hy
        simp only [BV.er, BO.er, if_true] at h1 h2 ⊢
        have hlm : ([] : List (List PV)).length + (l'.map (tcells t)).length ≤ 34359738368 := by simpa using hle
        exact OpOK.appendNew ho rfl he hb.1.1.2 hb.2 h1 h2 (List.nil_append _) (by rw [List.length_map]) (.inl rfl) (hlim hlm hb.1.2).1 (hlim hlm hb.1.2).2
      · simp at h
    · simp at h
  · rename_i t l v e hx hy he
    split at h
    · rename_i d es bytes hd hz hby
      split at h
      · rename_i hb
        simp only [Bool.and_eq_true] at hb
        have := Nat.eq_of_beq_eq_true hb.1.1.1; subst this
        obtain ⟨f, l', hv, h0⟩ := srcB_some h
        subst hv; clear h
        split at h0
        · obtain ⟨hle, h⟩ := lec_some h0
          refine ⟨_, h, .new (fun L m u => if m = 1000 + d then l'.length else L m u) (fun L m u hm => if_neg hm) (fun L _ t' l2 u hl => by cases hl; exact if_pos rfl) fun L hL => ?_⟩
          have h1 := evalB_er L hx
          have h2 := evalB_er L hy
          simp only [BV.er, BO.er, if_true, List.map_nil] at h1 h2 ⊢
          have hlm : ([] : List (List PV)).length + (l'.map (tcells t)).length ≤ 34359738368 := by simpa using hle
          exact OpOK.appendNew ho rfl he hb.1.1.2 hb.2 h1 h2 (List.nil_append _) (by rw [List.length_map]) (.inl rfl) (hlim hlm hb.1.2).1 (hlim hlm hb.1.2).2
        · rename_i y0 q0
          split at h0
          · simp at h0
          · rename_i z q
            obtain ⟨hle, h⟩ := lec_some h0
            refine ⟨_, h, .new (fun L m u => if m = 1000 + d then (y0 :: q0 ++ z :: q).length else L m u) (fun L m u hm => if_neg hm) (fun L _ t' l2 u hl => by cases hl; exact if_pos rfl) fun L hL => ?_⟩
            have h1 := evalB_er L hx
            have h2 := evalB_er L hy
            simp only [BV.er, BO.er, if_true] at h1 h2 ⊢
            have hlm : ((y0 :: q0).map (tcells t)).length + ((z :: q).map (tcells t)).length ≤ 34359738368 := by simpa using hle
            exact OpOK.appendNew ho rfl he hb.1.1.2 hb.2 h1 h2 (by rw [← List.map_append]) (by rw [List.length_map]) (.inr ⟨by simp, rfl⟩) (hlim hlm hb.1.2).1 (hlim hlm hb.1.2).2
      · simp at h
    · simp at h
  · simp at h
theorem bConv_ok {S T : TypeId} {x : Operand} (ho : o.op = .convert S T x) (h : bConv P rd K S T x = some r) : Does P o rd hs K r := by
  unfold bConv at h
  split at h
  · rename_i k a k' hx hT
    split at h
    · rename_i hS
      refine ⟨_, h, .ev fun L _ => ?_⟩
      simp only [BV.er]; exact OpOK.convI ho hS hT (evalB_n L hx) rfl
    · simp at h
  · simp at h
theorem bIndexS_ok {T : TypeId} {x y : Operand} (ho : o.op = .index T x y) (h : bIndexS P rd K T x y = some r) : Does P o rd hs K r := by
  unfold bIndexS at h
  split at h
  · rename_i t k j hx hy hT
    obtain ⟨i, hj, h⟩ := natc_some h
    obtain ⟨hlt, h⟩ := ltc_some h
    refine ⟨_, h, .ev fun L _ => ?_⟩
    simp only [BV.er]; exact OpOK.indexS ho hT (evalB_s L hx) (evalB_n L hy) hj hlt
  · simp at h
theorem bMax_ok {x y : Operand} {ats : Array TypeId} (ho : o.op = .call { callee := .builtin .max, args := #[x, y], argTypes := ats }) (h : bMax rd K x y = some r) : Does P o rd hs K r := by
  unfold bMax at h
  split at h
  · rename_i k a k' b hx hy
    split at h
    case isFalse => simp at h
    rename_i hk
    simp only [Bool.and_eq_true] at hk
    have h1 := kEq_of hk.1; subst h1
    have h2 := kEq_of hk.2; subst h2
    refine ⟨_, h, .ev fun L _ => ?_⟩
    simp only [BV.er]; exact OpOK.maxI ho (evalB_n L hx) (evalB_n L hy) rfl
  · simp at h
theorem bMin_ok {x y : Operand} {ats : Array TypeId} (ho : o.op = .call { callee := .builtin .min, args := #[x, y], argTypes := ats }) (h : bMin rd K x y = some r) : Does P o rd hs K r := by
  unfold bMin at h
  split at h
  · rename_i k a k' b hx hy
    split at h
    case isFalse => simp at h
    rename_i hk
    simp only [Bool.and_eq_true] at hk
    have h1 := kEq_of hk.1; subst h1
    have h2 := kEq_of hk.2; subst h2
    refine ⟨_, h, .ev fun L _ => ?_⟩
    simp only [BV.er]; exact OpOK.minI ho (evalB_n L hx) (evalB_n L hy) rfl
  · simp at h
theorem bCallB_ok {c : Call} (ho : o.op = .call c) (h : bCallB P ty rd hs K o.dst c = some r) : Does P o rd hs K r := by
  obtain ⟨callee, args, ats⟩ := c
  obtain ⟨args⟩ := args
  obtain ⟨ats⟩ := ats
  unfold bCallB at h
  split at h
  · rename_i x T h1 h2 h3
    simp only at h1 h2 h3
    subst h1; subst h2; subst h3
    exact bLen_ok ho rfl h
  · rename_i x y T T' h1 h2 h3
    simp only at h1 h2 h3
    subst h1; subst h2; subst h3
    split at h
    · rename_i hT
      have := Nat.eq_of_beq_eq_true hT; subst this
      exact bAppend_ok ho h
    · simp at h
  · rename_i x y h1 h2
    simp only at h1 h2
    subst h1; subst h2
    exact bMax_ok ho h
  · rename_i x y h1 h2
    simp only at h1 h2
    subst h1; subst h2
    exact bMin_ok ho h
  · rename_i x T h1 h2 h3
    simp only at h1 h2 h3
    subst h1; subst h2; subst h3
    exact bClear_ok ho rfl h
  · rename_i x y T T' h1 h2 h3
    simp only at h1 h2 h3
    subst h1; subst h2; subst h3
    split at h
    · rename_i hT
      have := Nat.eq_of_beq_eq_true hT; subst this
      exact bCopy_ok ho h
    · simp at h
  · simp at h
theorem bop_ok (h : bop P ty rd hs K o = some r) : Does P o rd hs K r := by
  unfold bop at h
  split at h
  · rename_i ho; exact bVal_ok (.inl ho) h
  · rename_i ho; exact bVal_ok (.inr ho) h
  · rename_i ho; exact bPick_ok ho h
  · rename_i ho; exact bAlloc_ok ho h
  · rename_i ho; exact bBox_ok ho h
  · rename_i ho; exact bBuild_ok ho h
  · rename_i ho
    split at h
    · exact bBuildOwn_ok ho h
    · exact bBuildSlice_ok ho h
  · rename_i ho; exact bLoad_ok ho h
  · rename_i ho; exact bStore_ok ho h
  · rename_i ho; exact bFieldAddr_ok ho h
  · rename_i ho; exact bNilCheck_ok ho h
  · rename_i ho; exact bBin2_ok ho h
  · rename_i ho; exact bUn_ok ho h
  · rename_i ho; exact bField_ok ho h
  · rename_i ho; exact bExtract_ok ho h
  · rename_i ho
    split at h
    · exact bIndexBox_ok ho h
    · exact bIndexAddr_ok ho h
  · rename_i ho
    split at h
    · exact bIndexV_ok ho h
    · exact bIndexS_ok ho h
  · rename_i ho; exact bConv_ok ho h
  · rename_i ho; exact bSlice_ok ho h
  · rename_i ho; exact bFunc_ok ho h
  · rename_i ho; exact bMakeMap_ok ho h
  · rename_i ho; exact bLookup_ok ho h
  · rename_i ho; exact bPutM_ok ho h
  · rename_i ho; exact bCallB_ok ho h
  · simp at h
end
end Go.Proofs.YtfhcigjkfelnfaaGreat.AM
/-
  The typed layer, part I: the state behind an operation. No project text.
-/
set_option linter.unusedVariables false
set_option linter.unusedSimpArgs false
namespace Go.Proofs.YtfhcigjkfelnfaaGreat.AM
open Go
variable {L L' : Lens} {ts ts' : TS} {hs hs' : HS}
section
variable {R : Type}
def newBs (nw : List Name) (upd : HS) (ts : TS) (hs : HS) : Bool := nw.all fun n => (look n hs).isNone && freeS n ts hs && (keys upd).contains n
def novBs (nv : List (Name × Nat)) (ts : TS) (hs : HS) : Bool := nv.all fun p => novS p.1 p.2 ts hs
def putB (d : Option Nat) (v : BV) (ts : TS) : TS := match d with
  | some d => (d, v) :: ts
  | none => ts
def goE1 (nn : Nat) (d : Option Nat) (ts : TS) (hs : HS) (K : BEff → TS → HS → Option R) (e : BEff) : Option R :=
  if newBs e.nw e.upd ts hs && dstOK nn d && novBs e.nv ts hs then K e (putB d e.v ts) (e.upd ++ hs) else none
def goE (sp : Bool) (nn : Nat) (d : Option Nat) (ts : TS) (hs : HS) (K : BEff → TS → HS → Option R) (e : BEff) : Option R := match e with
  | ⟨hp, .b q, upd, nw, nv⟩ => match sp with
    | true => cnd q (goE1 nn d ts hs K ⟨hp, .b true, upd, nw, nv⟩) (goE1 nn d ts hs K ⟨hp, .b false, upd, nw, nv⟩)
    | false => goE1 nn d ts hs K ⟨hp, .b q, upd, nw, nv⟩
  | e => goE1 nn d ts hs K e
variable {r : R} {P : Program} {o : Oper} {rd : TS}
theorem holds_er {e : BEff} {L' : Lens} (hrd : ∀ t v, (t, v) ∈ rd → look t ts = some v) (hhp : ∀ n ob, (n, ob) ∈ e.hp → look n hs = some ob) (hnw : newBs e.nw e.upd ts hs = true) :
    (BS L ts hs).holds ⟨erT L rd, erH L e.hp, e.v.er L', erH L' e.upd, e.nw⟩ := by
  refine ⟨fun t x hx => ?_, fun n ob hn => ?_, fun n hn => ?_⟩
  · simp only [erT, List.mem_map] at hx
    obtain ⟨⟨t', v⟩, hm, he⟩ := hx
    cases he
    rw [BS_slot, hrd _ v hm]; rfl
  · simp only [erH, List.mem_map] at hn
    obtain ⟨⟨t', v⟩, hm, he⟩ := hn
    cases he
    rw [BS_heap, hhp _ v hm]; rfl
  · have := List.all_eq_true.1 hnw n hn
    simp only [Bool.and_eq_true, Option.isNone_iff_eq_none] at this
    refine ⟨by rw [BS_heap, this.1.1]; rfl, free_of ?_⟩
    rw [freeS_er]; exact this.1.2
structure Step (P : Program) (o : Oper) (rd : TS) (L : Lens) (ts : TS) (hs : HS) (e : BEff) (L' : Lens) : Prop where
  rds : ∀ t v, (t, v) ∈ rd → look t ts = some v
  hps : ∀ n ob, (n, ob) ∈ e.hp → look n hs = some ob
  new : newBs e.nw e.upd ts hs = true
  inv : Inv L' (e.upd ++ hs)
  ets : erT L ts = erT L' ts
  ehs : erH L hs = erH L' hs
  ok : OpOK P o ⟨erT L rd, erH L e.hp, e.v.er L', erH L' e.upd, e.nw⟩
theorem goE1_some {nn : Nat} {K : BEff → TS → HS → Option R} {e : BEff} (hg : Good P o rd hs e) (hrd : ∀ t v, (t, v) ∈ rd → look t ts = some v) (h : goE1 nn o.dst ts hs K e = some r) (hi : Inv L hs) :
    ∃ L', Step P o rd L ts hs e L' ∧ dstOK nn o.dst = true ∧ K e (putB o.dst e.v ts) (e.upd ++ hs) = some r := by
  unfold goE1 at h
  split at h
  · rename_i hb
    simp only [Bool.and_eq_true] at hb
    obtain ⟨hhp, hg⟩ := hg
    obtain ⟨L', hL', hi', hop⟩ := hg L hi
    obtain ⟨e1, e2⟩ := erS_congr (L := L) (L' := L') (nw := e.nw) (nv := e.nv) (ts := ts) (hs := hs) (fun n hn => by
      have := List.all_eq_true.1 hb.1.1 n hn
      simp only [Bool.and_eq_true] at this
      exact this.1.2) (fun p hp => List.all_eq_true.1 hb.2 p hp) hL'
    exact ⟨L', ⟨hrd, hhp, hb.1.1, hi', e1, e2, hop⟩, hb.1.2, h⟩
  · simp at h
theorem goE_some {sp : Bool} {nn : Nat} {K : BEff → TS → HS → Option R} {e : BEff} (hg : Good P o rd hs e) (hrd : ∀ t v, (t, v) ∈ rd → look t ts = some v) (h : goE sp nn o.dst ts hs K e = some r) (hi : Inv L hs) :
    ∃ L', Step P o rd L ts hs e L' ∧ dstOK nn o.dst = true ∧ K e (putB o.dst e.v ts) (e.upd ++ hs) = some r := by
  unfold goE at h
  split at h
  · split at h
    · rcases cnd_some h with ⟨rfl, h⟩ | ⟨rfl, h⟩
      · exact goE1_some hg hrd h hi
      · exact goE1_some hg hrd h hi
    · exact goE1_some hg hrd h hi
  · exact goE1_some hg hrd h hi
theorem BS_run {d : Option Nat} {e : BEff} {L0 : Lens} (h1 : erT L ts = erT L' ts) (h2 : erH L hs = erH L' hs) : (BS L ts hs).run d ⟨erT L0 rd, erH L0 e.hp, e.v.er L', erH L' e.upd, e.nw⟩ = BS L' (putB d e.v ts) (e.upd ++ hs) := by
  unfold BS
  rw [mk_run, h1, h2, erH_append]
  cases d <;> rfl
theorem Step.go {e : BEff} {nn : Nat} {Γ : Ctx} {ρ : Name → Loc} {M : Nat → Prop} {a : Act} {w : World} {KK : Act → World → Prop} {Q : Exit → Act → World → Prop}
    (hst : Step P o rd L ts hs e L') (hd : dstOK nn o.dst = true) (hn : Γ.n = nn) (hs0 : Sim Γ ρ M (BS L ts hs) a w)
    (hK : ∀ ρ' M' a' w', Sim Γ ρ' M' (BS L' (putB o.dst e.v ts) (e.upd ++ hs)) a' w' → KK a' w') : o.wp P a w KK Q := by
  refine hst.ok Γ ρ M _ a w KK Q hs0 (holds_er hst.rds hst.hps hst.new) (fun d hd' => ?_) (fun ρ' M' a' w' hs' => hK ρ' M' a' w' ?_)
  · rw [hd'] at hd; simp only [dstOK] at hd; rw [hn]; exact Nat.le_of_ble_eq_true hd
  · rw [BS_run hst.ets hst.ehs] at hs'; exact hs'
end
end Go.Proofs.YtfhcigjkfelnfaaGreat.AM
/-
  The typed layer, part J: calls of functions, regions. No project text.
-/
set_option linter.unusedVariables false
set_option linter.unusedSimpArgs false
namespace Go.Proofs.YtfhcigjkfelnfaaGreat.AM
open Go
variable {L L' : Lens} {ts ts' : TS} {hs hs' : HS}
abbrev Env := Option Nat → FuncId → List BV → Option Sig
def EnvOK (P : Program) (E : Env) : Prop := ∀ d k vs g, E d k vs = some g → FnOK P k g
def asView (hs : HS) : BV → BV
  | .own m u => match look m hs with
    | some (.arr _ l q) => if Nat.beq u q then .view m u 0 l.length else .own m u
    | _ => .own m u
  | x => x
def viewS (hs : HS) : SSh → BV → BV
  | .one (.view _), v => asView hs v
  | _, v => v
def viewL (hs : HS) : List SSh → List BV → List BV
  | s :: r, v :: vs => viewS hs s v :: viewL hs r vs
  | _, vs => vs
def wantsView (t : Nat) (s : List (Nat × SSh)) : Bool := match look t s with
  | some (.one (.view _)) => true
  | _ => false
def viewT (hs : HS) (s : List (Nat × SSh)) (ts : TS) : TS := ts.map fun p => (p.1, match wantsView p.1 s with | true => asView hs p.2 | false => p.2)
theorem look_mapK {g : Nat → BV → BV} (k : Nat) : ∀ ts : TS, look k (ts.map fun p => (p.1, g p.1 p.2)) = (look k ts).map (g k)
  | [] => rfl
  | (j, x) :: r => by
    simp only [List.map_cons, look]
    split
    · rename_i e; subst e; rfl
    · exact look_mapK k r
theorem asView_le {x : BV} (hi : Inv L hs) : AVle (x.er L) ((asView hs x).er L) := by
  cases x with
  | own m u =>
    simp only [asView]
    split
    · rename_i t l q hl
      split
      · rename_i e
        have := Nat.eq_of_beq_eq_true e; subst this
        simp only [BV.er, hi m t l u hl]
        exact .view m l.length
      · exact .refl _
    · exact .refl _
  | _ => exact .refl _
theorem viewS_le {s : SSh} {x : BV} (hi : Inv L hs) : AVle (x.er L) ((viewS hs s x).er L) := by
  unfold viewS; split
  · exact asView_le hi
  · exact .refl _
theorem viewL_le (hi : Inv L hs) : ∀ {ss : List SSh} {vs : List BV}, AVleL (erL L vs) (erL L (viewL hs ss vs))
  | [], vs => by simp only [viewL]; exact AVleL.refl _
  | s :: r, [] => by simp only [viewL]; exact AVleL.refl _
  | s :: r, v :: vs => by simp only [viewL, erL]; exact .cons (viewS_le hi) (viewL_le hi)
theorem viewT_le (hi : Inv L hs) {s : List (Nat × SSh)} {ts : TS} {t : Nat} {y : BV} (h : look t (viewT hs s ts) = some y) : ∃ x, look t ts = some x ∧ AVle (x.er L) (y.er L) := by
  unfold viewT at h
  rw [look_mapK (g := fun t x => match wantsView t s with | true => asView hs x | false => x)] at h
  cases hx : look t ts with
  | none => rw [hx] at h; simp at h
  | some x =>
    rw [hx] at h
    simp only [Option.map_some, Option.some.injEq] at h
    refine ⟨x, rfl, ?_⟩
    rw [← h]
    split
    · exact asView_le hi
    · exact .refl _
section
variable {R : Type}
def callK (P : Program) (E : Env) (sp : Bool) (nn : Nat) (dst : Option Nat) (f : FuncId) (vs : List BV) (ts : TS) (hs : HS) (K : BEff → TS → HS → Option R) : Option R :=
  match dst with
  | some d => if callable P f then match E (some d) f vs with
    | some g => SL.get g.args (viewL hs g.args vs) [] fun σ x => OL.get g.pre hs σ fun σ y => g.F R x y fun a b =>
        if callChk g (σ ++ freshOf d g) d hs y a b then goE sp nn dst ts hs K (callEff g (σ ++ freshOf d g) d hs y a b) else none
    | none => none
    else none
  | none => none
variable {r : R} {P : Program} {o : Oper} {rd : TS} {E : Env}
theorem look_put {u : Nat} {l : List (Name × OSh)} {y : OL l} {n : Name} : n ∈ keys l → ∃ b, look n (OL.put u l y) = some b := by
  induction l with
  | nil => intro h; simp [keys] at h
  | cons p l ih =>
    intro h
    simp only [keys, List.map_cons, List.mem_cons] at h
    simp only [OL.put, look]
    split
    · exact ⟨_, rfl⟩
    · rename_i hne
      rcases h with h | h
      · exact absurd h.symm hne
      · exact ih h
theorem keys_put {u : Nat} {l : List (Name × OSh)} {y : OL l} : keys (OL.put u l y) = keys l := by
  induction l with
  | nil => rfl
  | cons p l ih => simp only [OL.put, keys, List.map_cons] at ih ⊢; rw [ih]
theorem arrs_of_put {u v : Nat} {l : List (Name × OSh)} {y : OL l} {n : Name} {t : TC} {x : List (TT t)} : look n (OL.put u l y) = some (.arr t x v) → n ∈ arrsOf l ∧ v = u ∨ n ∈ samesOf l ∧ v = 0 := by
  induction l with
  | nil => intro h; simp [OL.put, look] at h
  | cons p l ih =>
    intro h
    obtain ⟨k, o⟩ := p
    simp only [OL.put, look] at h
    split at h
    · rename_i e
      cases o with
      | box l => simp [OSh.put] at h
      | boxst t => simp [OSh.put] at h
      | sm => simp [OSh.put] at h
      | arr t => subst e; simp only [OSh.put, Option.some.injEq] at h; cases h; exact .inl ⟨by simp [arrsOf], rfl⟩
      | arrs t => subst e; simp only [OSh.put, Option.some.injEq] at h; cases h; exact .inr ⟨by simp [samesOf], rfl⟩
    · rcases ih h with ih | ih
      · refine .inl ⟨?_, ih.2⟩
        cases o <;> simp only [arrsOf] <;> first | exact ih.1 | exact List.mem_cons_of_mem _ ih.1
      · refine .inr ⟨?_, ih.2⟩
        cases o <;> simp only [samesOf] <;> first | exact ih.1 | exact List.mem_cons_of_mem _ ih.1
theorem arrs_keys : ∀ {l : List (Name × OSh)} {n : Name}, n ∈ arrsOf l → n ∈ keys l
  | [], n, h => by simp [arrsOf] at h
  | (k, .arr t) :: r, n, h => by
    simp only [arrsOf, List.mem_cons] at h
    simp only [keys, List.map_cons, List.mem_cons]
    exact h.imp id (fun h => arrs_keys h)
  | (k, .arrs t) :: r, n, h => by simp only [arrsOf] at h; simp only [keys, List.map_cons, List.mem_cons]; exact .inr (arrs_keys h)
  | (k, .box t) :: r, n, h => by simp only [arrsOf] at h; simp only [keys, List.map_cons, List.mem_cons]; exact .inr (arrs_keys h)
  | (k, .boxst t) :: r, n, h => by simp only [arrsOf] at h; simp only [keys, List.map_cons, List.mem_cons]; exact .inr (arrs_keys h)
  | (k, .sm) :: r, n, h => by simp only [arrsOf] at h; simp only [keys, List.map_cons, List.mem_cons]; exact .inr (arrs_keys h)
theorem look_filter {f : Name → Bool} {n : Name} : ∀ {h : HS}, look n (h.filter fun p => f p.1) = if f n then look n h else none
  | [] => by simp [look]
  | (k, o) :: q => by
    have ih := look_filter (f := f) (n := n) (h := q)
    by_cases hk : f k = true
    · rw [List.filter_cons_of_pos (by simpa using hk)]
      simp only [look]
      by_cases e : k = n
      · subst e; simp [hk]
      · simp only [e, if_false, ih]
    · rw [List.filter_cons_of_neg (by simpa using hk), ih]
      simp only [look]
      by_cases e : k = n
      · subst e; simp [hk]
      · simp only [e, if_false]
theorem hpOf_mem {rr : Name → Name} {m : Name} {ob : BO} : ∀ {ks : List Name}, (m, ob) ∈ hpOf rr hs ks → look m hs = some ob
  | [], h => by simp [hpOf] at h
  | k :: ks, h => by
    simp only [hpOf] at h
    split at h
    · rename_i hk
      rcases List.mem_cons.1 h with h | h
      · cases h; exact hk
      · exact hpOf_mem h
    · exact hpOf_mem h
theorem hpOf_key {rr : Name → Name} {m : Name} {ob : BO} : ∀ {ks : List Name}, (m, ob) ∈ hpOf rr hs ks → ∃ n, n ∈ ks ∧ m = rr n
  | [], h => by simp [hpOf] at h
  | k :: ks, h => by
    simp only [hpOf] at h
    split at h
    · rcases List.mem_cons.1 h with h | h
      · cases h; exact ⟨k, by simp, rfl⟩
      · obtain ⟨n, h1, h2⟩ := hpOf_key h; exact ⟨n, List.mem_cons_of_mem _ h1, h2⟩
    · obtain ⟨n, h1, h2⟩ := hpOf_key h; exact ⟨n, List.mem_cons_of_mem _ h1, h2⟩
theorem hpOf_look {rr : Name → Name} (hrr : ∀ a b, rr a = rr b → a = b) {n : Name} {ob : BO} (h : look (rr n) hs = some ob) : ∀ {ks : List Name}, n ∈ ks → look (rr n) (hpOf rr hs ks) = some ob
  | [], hn => by simp at hn
  | k :: ks, hn => by
    simp only [hpOf]
    by_cases e : k = n
    · subst e; rw [h]; simp only [look, if_true]
    · have hn' : n ∈ ks := by rcases List.mem_cons.1 hn with h | h; · exact absurd h.symm e
                              · exact h
      split
      · simp only [look]; rw [if_neg (fun h => e (hrr _ _ h))]; exact hpOf_look hrr h hn'
      · exact hpOf_look hrr h hn'
theorem callK_some {sp : Bool} {nn : Nat} {K : BEff → TS → HS → Option R} {f : FuncId} {vs : List BV}
    (hE : EnvOK P E) (hop : callable P f = true → ∀ (L : Lens) (pre h : List (Name × AO)) (v : AV) (nw : List Name), SpecIs P f (erL L vs) pre v h → callOK pre h nw v = true → OpOK P o ⟨erT L rd, pre, v, h, nw⟩) (hrd : ∀ t v, (t, v) ∈ rd → look t ts = some v)
    (h : callK P E sp nn o.dst f vs ts hs K = some r) (hi : Inv L hs) :
    ∃ e L', Step P o rd L ts hs e L' ∧ dstOK nn o.dst = true ∧ K e (putB o.dst e.v ts) (e.upd ++ hs) = some r := by
  unfold callK at h
  split at h
  case h_2 => simp at h
  rename_i d hd
  split at h
  case isFalse => simp at h
  rename_i hcall
  split at h
  case h_2 => simp at h
  rename_i g hEf
  obtain ⟨σ1, x, h, hs1, g1⟩ := SL.get_some h
  obtain ⟨σ2, y, h, hs2, g2⟩ := OL.get_some h
  obtain ⟨va, vb, hF, h⟩ := (hE (some d) f vs g hEf).nat R x y _ r h
  split at h
  case isFalse => simp at h
  rename_i hchk
  unfold callChk at hchk
  simp only [Bool.and_eq_true] at hchk
  obtain ⟨⟨⟨⟨hm, hcb⟩, hu1⟩, hu2⟩, hkeep⟩ := hchk
  have hfit := renOK_fit hm
  have hinj := renOK_inj hm
  generalize hrr : renOf (σ2 ++ freshOf d g) = rr at hinj hfit h
  generalize hdd : verOf (σ2 ++ freshOf d g) = δ at hfit h
  have hfit2 : Fit rr δ σ2 := hfit.mono fun p hp => List.mem_append_left _ hp
  have hfit1 : Fit rr δ σ1 := hfit2.mono hs2
  have hwant : ∀ n b, look n (OL.put 0 g.pre y) = some b → ∃ a, look (rr n) hs = some a ∧ ((∃ cs ds, a = .box cs ∧ b = .box ds) ∨ (∃ t l, a = .arr t l (δ n) ∧ b = .arr t l 0) ∨ ∃ es, a = .sm es ∧ b = .sm es) ∧ ∀ L, OLe rr δ (δ n) L a b := fun n b hb => by
    obtain ⟨v, hv, hle⟩ := g2 rr δ (fun _ _ => 0) hfit2 n b hb
    refine ⟨v, hv, ?_, fun L => ?_⟩
    · rcases hle with ⟨cs, ds, h1, h2, _⟩ | h2
      · exact .inl ⟨cs, ds, h1, h2⟩
      · exact .inr h2
    · obtain ⟨v', hv', hle'⟩ := g2 rr δ L hfit2 n b hb
      rw [hv] at hv'; cases hv'; exact hle'
  have heff : callEff g (σ2 ++ freshOf d g) d hs y va vb = ⟨hpOf rr hs (keys g.pre), (resB (SL.put 1 g.res va)).ren rr δ, renHB rr δ (g.posts y vb), (freshOf d g).map (·.2.1),
    ((arrsOf g.post).filter fun n => (keys g.pre).contains n).map fun n => (rr n, δ n + 1)⟩ := by unfold callEff; rw [hrr, hdd]
  rw [heff] at hcb h
  suffices hgood : Good P o rd hs ⟨hpOf rr hs (keys g.pre), (resB (SL.put 1 g.res va)).ren rr δ, renHB rr δ (g.posts y vb), (freshOf d g).map (·.2.1),
    ((arrsOf g.post).filter fun n => (keys g.pre).contains n).map fun n => (rr n, δ n + 1)⟩ by
    obtain ⟨L', hst, hdd', hK⟩ := goE_some (rd := rd) (L := L) hgood hrd h hi
    exact ⟨_, L', hst, hdd', hK⟩
  refine ⟨fun m ob hm' => hpOf_mem hm', fun L0 hL0 => ?_⟩
  · have hinvc : Inv (lensOf L0 rr δ) (OL.put 0 g.pre y) := fun n t l u hnl => by
      obtain ⟨a, ha, hk, _⟩ := hwant n _ hnl
      rcases hk with ⟨cs, ds, _, h2⟩ | ⟨t', l', rfl, h2⟩ | ⟨es, _, h2⟩
      · cases h2
      · cases h2; exact hL0 _ t l _ ha
      · cases h2
    obtain ⟨L1, hk1, hinv1, hspec⟩ := (hE (some d) f vs g hEf).spec x y va vb hF _ hinvc
    classical
    let L' : Lens := fun m v => if h : ∃ n, n ∈ arrsOf g.post ∧ m = rr n ∧ v = δ n + 1 then L1 (Classical.choose h) 1 else L0 m v
    have hA1 : ∀ n, n ∈ arrsOf g.post → L' (rr n) (δ n + 1) = L1 n 1 := fun n hn => by
      have hex : ∃ k, k ∈ arrsOf g.post ∧ rr n = rr k ∧ δ n + 1 = δ k + 1 := ⟨n, hn, rfl, rfl⟩
      show (if h : ∃ k, k ∈ arrsOf g.post ∧ rr n = rr k ∧ δ n + 1 = δ k + 1 then L1 (Classical.choose h) 1 else _) = L1 n 1
      rw [dif_pos hex, ← hinj _ _ (Classical.choose_spec hex).2.1]
    have hA2 : ∀ m v, ¬ (∃ n, n ∈ arrsOf g.post ∧ m = rr n ∧ v = δ n + 1) → L' m v = L0 m v := fun m v h => dif_neg h
    have hkp : ∀ n, n ∈ g.keep ∨ n ∈ samesOf g.post → L' (rr n) (δ n + 0) = L1 n 0 := fun n hn => by
      rw [hA2, hk1 n hn]; · rfl
      rintro ⟨n', hn', he, he2⟩
      have := hinj _ _ he; subst this
      exact absurd he2 (by omega)
    have hLL : ∀ n u, useOK g n u = true → L' (rr n) (δ n + u) = L1 n u := fun n u hn => by
      unfold useOK at hn
      split at hn
      · exact hkp n (by simp only [Bool.or_eq_true] at hn; exact hn.imp isIn_iff.1 isIn_iff.1)
      · exact hA1 n (isIn_iff.1 hn)
      · simp at hn
    refine ⟨L', fun m v h1 h2 => hA2 m v ?_, fun m t l v hml => ?_, ?_⟩
    · rintro ⟨n, hn, rfl, rfl⟩
      by_cases hp : n ∈ keys g.pre
      · exact h2 (List.mem_map.2 ⟨n, List.mem_filter.2 ⟨hn, by simpa using hp⟩, rfl⟩)
      · have hmem : (n, (1000000 + 1000 * d + n, 0)) ∈ freshOf d g := List.mem_map.2 ⟨n, List.mem_filter.2 ⟨arrs_keys hn, by simpa using hp⟩, rfl⟩
        have := (hfit n _ (List.mem_append_right _ hmem)).1
        exact h1 (List.mem_map.2 ⟨_, hmem, this.symm⟩)
    · rw [look_append] at hml
      cases hu : look m (renHB rr δ (g.posts y vb)) with
      | some ob =>
        rw [hu] at hml; cases hml
        obtain ⟨n, rfl⟩ := look_renHB_inv hu
        rw [look_renHB hinj] at hu
        cases hb : look n (g.posts y vb) with
        | none => rw [hb] at hu; simp at hu
        | some b =>
          rw [hb] at hu
          simp only [Option.map_some, Option.some.injEq] at hu
          cases b with
          | box cs => simp [BO.ren] at hu
          | sm es => simp [BO.ren] at hu
          | arr t' l' v' =>
            simp only [BO.ren] at hu; cases hu
            rw [hLL n v' ?_]
            · exact hinv1 n t l v' hb
            · unfold Sig.posts at hb
              rw [look_append] at hb
              cases hb1 : look n (OL.put 1 g.post vb) with
              | some b1 =>
                rw [hb1] at hb; cases hb
                rcases arrs_of_put hb1 with ⟨k1, rfl⟩ | ⟨k1, rfl⟩
                · exact isIn_iff.2 k1
                · simp only [useOK, isIn_iff.2 k1, Bool.or_true]
              | none =>
                rw [hb1] at hb
                simp only [look_filter (f := fun n => g.keep.contains n)] at hb
                split at hb
                · rename_i hc
                  have hv0 : v' = 0 := (arrs_of_put hb).elim (·.2) (·.2)
                  subst hv0
                  simp only [useOK, isIn_iff.2 (show n ∈ g.keep by simpa using hc), Bool.true_or]
                · simp at hb
      | none =>
        rw [hu] at hml
        rw [hA2 m v ?_]
        · exact hL0 m t l v hml
        · rintro ⟨n, hn, rfl, _⟩
          rw [look_renHB hinj] at hu
          obtain ⟨b, hb⟩ := look_put (u := 1) (y := vb) (arrs_keys hn)
          have : look n (g.posts y vb) = some b := by unfold Sig.posts; rw [look_append, hb]
          rw [this] at hu; simp at hu
    · have h1 := Spec.ren hinj hspec
      rw [ren_er hLL _ hu1, renH_er hLL _ hu2] at h1
      have h2 : SpecIs P f (renL rr (erL (lensOf L0 rr δ) (SL.put 0 g.args x))) (erH L0 (hpOf rr hs (keys g.pre))) (((resB (SL.put 1 g.res va)).ren rr δ).er L') (erH L' (renHB rr δ (g.posts y vb))) := by
        refine Spec.preLe h1 (fun m ob hm => ?_) (fun m ob hm => ?_)
        · obtain ⟨n, rfl⟩ := look_renH_inv hm
          rw [look_renH hinj, look_erH] at hm
          cases hb : look n (OL.put 0 g.pre y) with
          | none => rw [hb] at hm; simp at hm
          | some b =>
            rw [hb] at hm
            simp only [Option.map_some, Option.some.injEq] at hm
            obtain ⟨a, ha, _, hle⟩ := hwant n b hb
            have hkn : n ∈ keys g.pre := by rw [← keys_put (u := 0) (y := y)]; exact keys_of_look (by rw [hb]; simp)
            refine ⟨a.er L0, by rw [look_erH, hpOf_look hinj ha hkn]; rfl, ?_⟩
            rcases hle L0 with ⟨cs, ds, rfl, rfl, h3⟩ | ⟨t, l, rfl, rfl⟩ | ⟨es, rfl, rfl⟩
            · exact .inr ⟨_, _, rfl, by rw [← hm]; simp only [BO.er, AO.ren], h3⟩
            · exact .inl (by rw [← hm]; simp only [BO.er, AO.ren])
            · exact .inl (by rw [← hm]; simp only [BO.er, AO.ren])
        · rw [look_erH] at hm
          cases hb : look m (hpOf rr hs (keys g.pre)) with
          | none => rw [hb] at hm; simp at hm
          | some b =>
            obtain ⟨n, hn, rfl⟩ := hpOf_key (look_mem hb)
            obtain ⟨b', hb'⟩ := look_put (u := 0) (y := y) hn
            exact ⟨_, by rw [look_renH hinj, look_erH, hb']; rfl⟩
      exact hop hcall L0 _ _ _ _ (Spec.argsLe (Spec.argsLe h2 (g1 rr δ L0 hfit1)) (viewL_le hL0)) (callB_er hcb)
end
end Go.Proofs.YtfhcigjkfelnfaaGreat.AM
