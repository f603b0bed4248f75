/-
  The typed layer, part F: shapes: what a value, an object, a state is known to be; typed data off them and back. No project text.
-/
import Derived.Test.YtbcginibldjnaaaGreatBD
import Derived.Test.YtbcginibldjnaaaGreatBE
set_option linter.unusedVariables false
set_option linter.unusedSimpArgs false
namespace Go.Proofs.YtbcginibldjnaaaGreat.AM
open Go
abbrev Ren := List (Name × (Name × Nat))
inductive Sh where
  | num (k : IntKind)
  | boo
  | str
  | lst (t : TC)
  | nul
  | ref (nm : Name)
  | own (nm : Name)
  | view (nm : Name)
  /-- A closure of that function, with these boxes. -/
  | clo (f : Nat) (caps : List Name)
  | fv (f : Nat)
  | mref (nm : Name)
inductive SSh where
  | one (s : Sh)
  | st (t : TC)
  | agg (l : List Sh)
inductive OSh where
  | box (l : List Sh)
  | boxst (t : TC)
  | arr (t : TC)
  /-- Changed in place: the header stays. -/
  | arrs (t : TC)
  | sm
def Sh.prod : Sh → Type → Type
  | .num _, X => Int × X
  | .boo, X => Bool × X
  | .str, X => ByteArray × X
  | .lst t, X => List (TT t) × X
  | .nul, X => X
  | .ref _, X => X
  | .own _, X => X
  | .view _, X => Nat × Nat × X
  | .clo _ _, X => X
  | .fv _, X => X
  | .mref _, X => X
def TL : List Sh → Type
  | [] => Unit
  | s :: r => s.prod (TL r)
def Sh.put (ver : Nat) : (s : Sh) → (X : Type) → s.prod X → BV × X
  | .num k, _, x => (.n k x.1, x.2)
  | .boo, _, x => (.b x.1, x.2)
  | .str, _, x => (.s x.1, x.2)
  | .lst t, _, x => (.ts false t x.1, x.2)
  | .nul, _, x => (.nil, x)
  | .ref nm, _, x => (.ref nm 0, x)
  | .own nm, _, x => (.own nm ver, x)
  | .view nm, _, x => (.view nm ver x.1 x.2.1, x.2.2)
  | .clo f caps, _, x => (.clo (.func f) (caps.map fun n => .ref n 0), x)
  | .fv f, _, x => (.v (.func (.func f) #[] #[]), x)
  | .mref nm, _, x => (.mref nm, x)
def TL.put (ver : Nat) : (l : List Sh) → TL l → List BV
  | [], _ => []
  | s :: r, x => (s.put ver _ x).1 :: TL.put ver r (s.put ver _ x).2
def SSh.prod : SSh → Type → Type
  | .one s, X => s.prod X
  | .st t, X => TT t × X
  | .agg l, X => TL l × X
def SSh.put (ver : Nat) : (s : SSh) → (X : Type) → s.prod X → BV × X
  | .one s, X, x => s.put ver X x
  | .st t, _, x => (.agg (tb t x.1), x.2)
  | .agg l, _, x => (.agg (TL.put ver l x.1), x.2)
def SL : List SSh → Type
  | [] => Unit
  | s :: r => s.prod (SL r)
def SL.put (ver : Nat) : (l : List SSh) → SL l → List BV
  | [], _ => []
  | s :: r, x => (s.put ver _ x).1 :: SL.put ver r (s.put ver _ x).2
def OSh.T : OSh → Type
  | .box l => TL l
  | .boxst t => TT t
  | .arr t => List (TT t)
  | .arrs t => List (TT t)
  | .sm => List (ByteArray × Bool)
def OSh.put (ver : Nat) : (o : OSh) → o.T → BO
  | .box l, x => .box (TL.put ver l x)
  | .boxst t, x => .box (tb t x)
  | .arr t, x => .arr t x ver
  | .arrs t, x => .arr t x 0
  | .sm, x => .sm x
def OL : List (Name × OSh) → Type
  | [] => Unit
  | p :: r => p.2.T × OL r
def OL.put (ver : Nat) : (l : List (Name × OSh)) → OL l → HS
  | [], _ => []
  | p :: r, x => (p.1, p.2.put ver x.1) :: OL.put ver r x.2
/-- Slots with shapes. -/
def TSh := List (Nat × SSh)
def STL : List (Nat × SSh) → Type
  | [] => Unit
  | p :: r => p.2.prod (STL r)
def STL.put (ver : Nat) : (l : List (Nat × SSh)) → STL l → TS
  | [], _ => []
  | p :: r, x => (p.1, (p.2.put ver _ x).1) :: STL.put ver r (p.2.put ver _ x).2

section
variable {R : Type} {r : R}
/-- The boxes of a closure. -/
def capsGet : List Name → List BV → Ren → (Ren → Option R) → Option R
  | [], [], σ, K => K σ
  | nm :: q, .ref m off :: vs, σ, K => if Nat.beq off 0 then capsGet q vs ((nm, (m, 0)) :: σ) K else none
  | _, _, _, _ => none
def Sh.get : (s : Sh) → BV → Ren → (Ren → ((X : Type) → X → s.prod X) → Option R) → Option R
  | .num k, .n k' x, σ, K => if kEq k k' then K σ (fun _ y => (x, y)) else none
  | .boo, .b x, σ, K => K σ (fun _ y => (x, y))
  | .str, .s x, σ, K => K σ (fun _ y => (x, y))
  | .lst t, .ts _ t' l, σ, K => if h : t' = t then K σ (fun _ y => (castL h l, y)) else none
  | .lst t, .nil, σ, K => K σ (fun _ y => ([], y))
  | .nul, .nil, σ, K => K σ (fun _ y => y)
  | .ref nm, .ref m off, σ, K => if Nat.beq off 0 then K ((nm, (m, 0)) :: σ) (fun _ y => y) else none
  | .own nm, .own m u, σ, K => K ((nm, (m, u)) :: σ) (fun _ y => y)
  | .view nm, .view m u lo hi, σ, K => K ((nm, (m, u)) :: σ) (fun _ y => (lo, hi, y))
  | .clo f caps, .clo (.func f') cs, σ, K => if Nat.beq f f' then capsGet caps cs σ fun σ => K σ (fun _ y => y) else none
  | .fv f, .v (.func (.func f') ⟨[]⟩ ⟨[]⟩), σ, K => if Nat.beq f f' then K σ (fun _ y => y) else none
  | .mref nm, .mref m, σ, K => K ((nm, (m, 0)) :: σ) (fun _ y => y)
  | _, _, _, _ => none
def TL.get : (l : List Sh) → List BV → Ren → (Ren → TL l → Option R) → Option R
  | [], [], σ, K => K σ ()
  | s :: r, v :: vs, σ, K => s.get v σ fun σ f => TL.get r vs σ fun σ x => K σ (f _ x)
  | _, _, _, _ => none
def SSh.get : (s : SSh) → BV → Ren → (Ren → ((X : Type) → X → s.prod X) → Option R) → Option R
  | .one s, v, σ, K => s.get v σ K
  | .st t, .agg cs, σ, K => tpop t cs fun x rest => match rest with
    | [] => K σ (fun _ y => (x, y))
    | _ => none
  | .agg l, .agg cs, σ, K => TL.get l cs σ fun σ x => K σ (fun _ y => (x, y))
  | _, _, _, _ => none
def SL.get : (l : List SSh) → List BV → Ren → (Ren → SL l → Option R) → Option R
  | [], [], σ, K => K σ ()
  | s :: r, v :: vs, σ, K => s.get v σ fun σ f => SL.get r vs σ fun σ x => K σ (f _ x)
  | _, _, _, _ => none
def OSh.get : (o : OSh) → BO → Nat → Ren → (Ren → o.T → Option R) → Option R
  | .box l, .box cs, _, σ, K => TL.get l cs σ K
  | .boxst t, .box cs, _, σ, K => tpop t cs fun x rest => match rest with
    | [] => K σ x
    | _ => none
  | .arr t, .arr t' l q, u, σ, K => if h : t' = t then if Nat.beq q u then K σ (castL h l) else none else none
  | .arrs t, .arr t' l q, u, σ, K => if h : t' = t then if Nat.beq q u then K σ (castL h l) else none else none
  | .sm, .sm es, _, σ, K => K σ es
  | _, _, _, _, _ => none
def OL.get : (l : List (Name × OSh)) → HS → Ren → (Ren → OL l → Option R) → Option R
  | [], _, σ, K => K σ ()
  | p :: r, hs, σ, K => match look p.1 σ with
    | some m => match look m.1 hs with
      | some ob => p.2.get ob m.2 σ fun σ x => OL.get r hs σ fun σ y => K σ (x, y)
      | none => none
    | none => none
def STL.get : (l : List (Nat × SSh)) → TS → Ren → (Ren → STL l → Option R) → Option R
  | [], _, σ, K => K σ ()
  | p :: r, ts, σ, K => match look p.1 ts with
    | some v => p.2.get v σ fun σ f => STL.get r ts σ fun σ x => K σ (f _ x)
    | none => none

/-- The names are those. -/
def Fit (rr : Name → Name) (δ : Name → Nat) (σ : Ren) : Prop := ∀ nm m, (nm, m) ∈ σ → rr nm = m.1 ∧ δ nm = m.2
/-- The lengths, as another sees them. -/
def lensOf (L : Lens) (rr : Name → Name) (δ : Name → Nat) : Lens := fun n v => L (rr n) (δ n + v)
theorem Fit.mono {rr : Name → Name} {δ : Name → Nat} {σ σ' : Ren} (h : Fit rr δ σ') (hs : ∀ p, p ∈ σ → p ∈ σ') : Fit rr δ σ := fun nm m hm => h nm m (hs _ hm)
variable {L : Lens}
theorem AVle.ofEq {x y : AV} (h : x = y) : AVle x y := h ▸ .refl _
theorem ren_p (rr : Name → Name) (x : PV) : (AV.p x).ren rr = .p x := by simp only [AV.ren]
theorem ren_isP {rr : Name → Name} {x : BV} (h : x.isP = true) (L : Lens) : (x.er L).ren rr = .p x.pv := by rw [er_isP h, ren_p]
theorem capsGet_some : ∀ {ns : List Name} {vs : List BV} {σ : Ren} {K : Ren → Option R}, capsGet ns vs σ K = some r →
    ∃ σ', K σ' = some r ∧ (∀ p, p ∈ σ → p ∈ σ') ∧ ∀ (rr : Name → Name) (δ : Name → Nat) (L : Lens), Fit rr δ σ' → erL L vs = renL rr (erL (lensOf L rr δ) (ns.map fun n => .ref n 0))
  | [], [], σ, K, h => ⟨σ, h, fun _ hp => hp, fun rr δ L _ => by simp only [List.map_nil, erL, renL]⟩
  | [], v :: vs, σ, K, h => by simp [capsGet] at h
  | nm :: ns, [], σ, K, h => by simp [capsGet] at h
  | nm :: ns, v :: vs, σ, K, h => by
    cases v with
    | ref m off =>
      simp only [capsGet] at h
      split at h
      · rename_i ho
        have := Nat.eq_of_beq_eq_true ho; subst this
        obtain ⟨σ', h1, h2, h3⟩ := capsGet_some h
        refine ⟨σ', h1, fun p hp => h2 p (List.mem_cons_of_mem _ hp), fun rr δ L hf => ?_⟩
        simp only [List.map_cons, erL, renL, BV.er, AV.ren, (hf nm (m, 0) (h2 _ (List.mem_cons_self ..))).1, h3 rr δ L hf]
      · simp at h
    | _ => simp [capsGet] at h
theorem Sh.get_some {s : Sh} {v : BV} {σ : Ren} {K : Ren → ((X : Type) → X → s.prod X) → Option R} (h : s.get v σ K = some r) :
    ∃ σ' f, K σ' f = some r ∧ (∀ p, p ∈ σ → p ∈ σ') ∧ (∀ X (y : X), (s.put 0 X (f X y)).2 = y) ∧ ∀ X (y : X) (rr : Name → Name) (δ : Name → Nat) (L : Lens), Fit rr δ σ' → AVle (v.er L) (((s.put 0 X (f X y)).1.er (lensOf L rr δ)).ren rr) := by
  unfold Sh.get at h
  split at h
  · split at h
    · rename_i hk; have := kEq_of hk; subst this
      exact ⟨_, _, h, fun _ hp => hp, fun _ _ => rfl, fun X y rr δ L _ => by simp only [Sh.put, BV.er, AV.ren]; exact .refl _⟩
    · simp at h
  · exact ⟨_, _, h, fun _ hp => hp, fun _ _ => rfl, fun X y rr δ L _ => by simp only [Sh.put, BV.er, AV.ren]; exact .refl _⟩
  · exact ⟨_, _, h, fun _ hp => hp, fun _ _ => rfl, fun X y rr δ L _ => by simp only [Sh.put, BV.er, AV.ren]; exact .refl _⟩
  · split at h
    · rename_i he; subst he
      exact ⟨_, _, h, fun _ hp => hp, fun _ _ => rfl, fun X y rr δ L _ => by simp only [Sh.put, BV.er, AV.ren, castL]; exact .p (PVle.full _)⟩
    · simp at h
  · rename_i t K0
    exact ⟨_, _, h, fun _ hp => hp, fun _ _ => rfl, fun X y rr δ L _ => by have := nil_le t L; simp only [BV.er] at this; simp only [Sh.put, BV.er, AV.ren]; exact this⟩
  · exact ⟨_, _, h, fun _ hp => hp, fun _ _ => rfl, fun X y rr δ L _ => by simp only [Sh.put, BV.er, AV.ren]; exact .refl _⟩
  · split at h
    · rename_i nm m off σ0 K0 ho
      have := Nat.eq_of_beq_eq_true ho; subst this
      exact ⟨_, _, h, fun _ hp => List.mem_cons_of_mem _ hp, fun _ _ => rfl, fun X y rr δ L hf => by simp only [Sh.put, BV.er, AV.ren, lensOf, (hf _ _ (List.mem_cons_self ..)).1, (hf _ _ (List.mem_cons_self ..)).2, Nat.add_zero]; exact .refl _⟩
    · simp at h
  · rename_i nm m σ0 K0
    exact ⟨_, _, h, fun _ hp => List.mem_cons_of_mem _ hp, fun _ _ => rfl, fun X y rr δ L hf => by simp only [Sh.put, BV.er, AV.ren, lensOf, (hf _ _ (List.mem_cons_self ..)).1, (hf _ _ (List.mem_cons_self ..)).2, Nat.add_zero]; exact .refl _⟩
  · rename_i nm m u lo hi σ0 K0
    exact ⟨_, _, h, fun _ hp => List.mem_cons_of_mem _ hp, fun _ _ => rfl, fun X y rr δ L hf => by simp only [Sh.put, BV.er, AV.ren, lensOf, (hf _ _ (List.mem_cons_self ..)).1, (hf _ _ (List.mem_cons_self ..)).2, Nat.add_zero]; exact .refl _⟩
  · split at h
    · rename_i hk; have := Nat.eq_of_beq_eq_true hk; subst this
      obtain ⟨σ', h1, h2, h3⟩ := capsGet_some h
      exact ⟨σ', _, h1, h2, fun _ _ => rfl, fun X y rr δ L hf => by simp only [Sh.put, BV.er, AV.ren, h3 rr δ L hf, renL]; exact .refl _⟩
    · simp at h
  · split at h
    · rename_i hk; have := Nat.eq_of_beq_eq_true hk; subst this
      exact ⟨_, _, h, fun _ hp => hp, fun _ _ => rfl, fun X y rr δ L _ => by simp only [Sh.put, BV.er, AV.ren]; exact .refl _⟩
    · simp at h
  · rename_i nm m σ0 K0
    exact ⟨_, _, h, fun _ hp => List.mem_cons_of_mem _ hp, fun _ _ => rfl, fun X y rr δ L hf => by simp only [Sh.put, BV.er, AV.ren, (hf _ _ (List.mem_cons_self ..)).1]; exact .refl _⟩
  · simp at h
theorem TL.get_some : ∀ {l : List Sh} {vs : List BV} {σ : Ren} {K : Ren → TL l → Option R}, TL.get l vs σ K = some r →
    ∃ σ' x, K σ' x = some r ∧ (∀ p, p ∈ σ → p ∈ σ') ∧ ∀ (rr : Name → Name) (δ : Name → Nat) (L : Lens), Fit rr δ σ' → AVleL (erL L vs) (renL rr (erL (lensOf L rr δ) (TL.put 0 l x)))
  | [], vs, σ, K, h => by
    cases vs with
    | nil => exact ⟨_, _, h, fun _ hp => hp, fun rr δ L _ => by simp only [TL.put, erL, renL]; exact .nil⟩
    | cons v vs => simp [TL.get] at h
  | s :: l, vs, σ, K, h => by
    cases vs with
    | nil => simp [TL.get] at h
    | cons v vs =>
      simp only [TL.get] at h
      obtain ⟨σ1, f, h, hs1, hf1, g1⟩ := Sh.get_some h
      obtain ⟨σ2, x, h, hs2, g2⟩ := TL.get_some h
      refine ⟨σ2, f _ x, h, fun p hp => hs2 p (hs1 p hp), fun rr δ L hf => ?_⟩
      simp only [TL.put, erL, renL, hf1]
      exact .cons (g1 _ x rr δ L (hf.mono hs2)) (g2 rr δ L hf)
theorem tb_ren (rr : Name → Name) (L L' : Lens) (t : TC) (x : TT t) : renL rr (erL L (tb t x)) = erL L' (tb t x) := by
  rw [erL_isP (tb_isP t x), erL_isP (tb_isP t x), renL_map]
  simp only [pcells, List.map_map]
  exact List.map_congr_left fun y _ => by simp only [Function.comp, AV.ren]
theorem SSh.get_some {s : SSh} {v : BV} {σ : Ren} {K : Ren → ((X : Type) → X → s.prod X) → Option R} (h : s.get v σ K = some r) :
    ∃ σ' f, K σ' f = some r ∧ (∀ p, p ∈ σ → p ∈ σ') ∧ (∀ X (y : X), (s.put 0 X (f X y)).2 = y) ∧ ∀ X (y : X) (rr : Name → Name) (δ : Name → Nat) (L : Lens), Fit rr δ σ' → AVle (v.er L) (((s.put 0 X (f X y)).1.er (lensOf L rr δ)).ren rr) := by
  cases s with
  | one s => exact Sh.get_some h
  | st t =>
    cases v with
    | agg cs =>
      simp only [SSh.get] at h
      obtain ⟨x, l, hle, h⟩ := tpop_some t h
      split at h
      · refine ⟨_, _, h, fun _ hp => hp, fun _ _ => rfl, fun X y rr δ L _ => ?_⟩
        simp only [SSh.put, BV.er, AV.ren, tb_ren rr _ L]
        have := hle L
        rw [List.append_nil] at this
        exact .agg this
      · simp at h
    | _ => simp [SSh.get] at h
  | agg l =>
    cases v with
    | agg cs =>
      simp only [SSh.get] at h
      obtain ⟨σ', x, h, hs, g⟩ := TL.get_some h
      exact ⟨_, _, h, hs, fun _ _ => rfl, fun X y rr δ L hf => by simp only [SSh.put, BV.er, AV.ren]; exact .agg (g rr δ L hf)⟩
    | _ => simp [SSh.get] at h
theorem SL.get_some : ∀ {l : List SSh} {vs : List BV} {σ : Ren} {K : Ren → SL l → Option R}, SL.get l vs σ K = some r →
    ∃ σ' x, K σ' x = some r ∧ (∀ p, p ∈ σ → p ∈ σ') ∧ ∀ (rr : Name → Name) (δ : Name → Nat) (L : Lens), Fit rr δ σ' → AVleL (erL L vs) (renL rr (erL (lensOf L rr δ) (SL.put 0 l x)))
  | [], vs, σ, K, h => by
    cases vs with
    | nil => exact ⟨_, _, h, fun _ hp => hp, fun rr δ L _ => by simp only [SL.put, erL, renL]; exact .nil⟩
    | cons v vs => simp [SL.get] at h
  | s :: l, vs, σ, K, h => by
    cases vs with
    | nil => simp [SL.get] at h
    | cons v vs =>
      simp only [SL.get] at h
      obtain ⟨σ1, f, h, hs1, hf1, g1⟩ := SSh.get_some h
      obtain ⟨σ2, x, h, hs2, g2⟩ := SL.get_some h
      refine ⟨σ2, f _ x, h, fun p hp => hs2 p (hs1 p hp), fun rr δ L hf => ?_⟩
      simp only [SL.put, erL, renL, hf1]
      exact .cons (g1 _ x rr δ L (hf.mono hs2)) (g2 rr δ L hf)
/-- What an object is taken for. -/
def OLe (rr : Name → Name) (δ : Name → Nat) (u : Nat) (L : Lens) (a b : BO) : Prop := (∃ cs ds, a = .box cs ∧ b = .box ds ∧ AVleL (erL L cs) (renL rr (erL (lensOf L rr δ) ds))) ∨ (∃ t l, a = .arr t l u ∧ b = .arr t l 0) ∨ ∃ es, a = .sm es ∧ b = .sm es
theorem OSh.get_some {o : OSh} {b : BO} {u : Nat} {σ : Ren} {K : Ren → o.T → Option R} (h : o.get b u σ K = some r) :
    ∃ σ' x, K σ' x = some r ∧ (∀ p, p ∈ σ → p ∈ σ') ∧ ∀ (rr : Name → Name) (δ : Name → Nat) (L : Lens), Fit rr δ σ' → OLe rr δ u L b (o.put 0 x) := by
  cases o with
  | box l =>
    cases b with
    | box cs =>
      obtain ⟨σ', x, h, hs, g⟩ := TL.get_some h
      exact ⟨σ', x, h, hs, fun rr δ L hf => .inl ⟨_, _, rfl, rfl, g rr δ L hf⟩⟩
    | arr t l => simp [OSh.get] at h
    | sm es => simp [OSh.get] at h
  | boxst t =>
    cases b with
    | box cs =>
      simp only [OSh.get] at h
      obtain ⟨x, l, hle, h⟩ := tpop_some t h
      split at h
      · refine ⟨_, _, h, fun _ hp => hp, fun rr δ L _ => .inl ⟨_, _, rfl, rfl, ?_⟩⟩
        rw [tb_ren rr _ L]
        have := hle L
        rwa [List.append_nil] at this
      · simp at h
    | arr t l => simp [OSh.get] at h
    | sm es => simp [OSh.get] at h
  | arr t =>
    cases b with
    | box cs => simp [OSh.get] at h
    | sm es => simp [OSh.get] at h
    | arr t' l =>
      simp only [OSh.get] at h
      split at h
      · rename_i he; subst he
        split at h
        · rename_i hq
          have := Nat.eq_of_beq_eq_true hq; subst this
          exact ⟨_, _, h, fun _ hp => hp, fun rr δ L _ => .inr (.inl ⟨_, _, rfl, rfl⟩)⟩
        · simp at h
      · simp at h
  | arrs t =>
    cases b with
    | box cs => simp [OSh.get] at h
    | sm es => simp [OSh.get] at h
    | arr t' l =>
      simp only [OSh.get] at h
      split at h
      · rename_i he; subst he
        split at h
        · rename_i hq
          have := Nat.eq_of_beq_eq_true hq; subst this
          exact ⟨_, _, h, fun _ hp => hp, fun rr δ L _ => .inr (.inl ⟨_, _, rfl, rfl⟩)⟩
        · simp at h
      · simp at h
  | sm =>
    cases b with
    | sm es => exact ⟨_, _, h, fun _ hp => hp, fun rr δ L _ => .inr (.inr ⟨_, rfl, rfl⟩)⟩
    | box cs => simp [OSh.get] at h
    | arr t l => simp [OSh.get] at h
theorem OL.get_some {hs : HS} : ∀ {l : List (Name × OSh)} {σ : Ren} {K : Ren → OL l → Option R}, OL.get l hs σ K = some r →
    ∃ σ' x, K σ' x = some r ∧ (∀ p, p ∈ σ → p ∈ σ') ∧ ∀ (rr : Name → Name) (δ : Name → Nat) (L : Lens), Fit rr δ σ' → ∀ n b, look n (OL.put 0 l x) = some b → ∃ a, look (rr n) hs = some a ∧ OLe rr δ (δ n) L a b
  | [], σ, K, h => ⟨_, _, h, fun _ hp => hp, fun rr δ L _ n b hn => by change look n [] = some b at hn; simp [look] at hn⟩
  | p :: l, σ, K, h => by
    simp only [OL.get] at h
    split at h
    · rename_i m hm
      split at h
      · rename_i ob hob
        obtain ⟨σ1, x, h, hs1, g1⟩ := OSh.get_some h
        obtain ⟨σ2, y, h, hs2, g2⟩ := OL.get_some h
        refine ⟨σ2, (x, y), h, fun q hq => hs2 q (hs1 q hq), fun rr δ L hf n b hn => ?_⟩
        change look n ((p.1, p.2.put 0 x) :: OL.put 0 l y) = some b at hn
        simp only [look] at hn
        split at hn
        · rename_i e
          cases hn
          have hfm := hf p.1 m (hs2 _ (hs1 _ (look_mem hm)))
          rw [← e, hfm.1, hfm.2]
          exact ⟨ob, hob, g1 rr δ L (hf.mono hs2)⟩
        · exact g2 rr δ L hf n b hn
      · simp at h
    · simp at h
theorem STL.get_some {ts : TS} : ∀ {l : List (Nat × SSh)} {σ : Ren} {K : Ren → STL l → Option R}, STL.get l ts σ K = some r →
    ∃ σ' x, K σ' x = some r ∧ (∀ p, p ∈ σ → p ∈ σ') ∧ ∀ (rr : Name → Name) (δ : Name → Nat) (L : Lens), Fit rr δ σ' → ∀ n b, look n (STL.put 0 l x) = some b → ∃ a, look n ts = some a ∧ AVle (a.er L) ((b.er (lensOf L rr δ)).ren rr)
  | [], σ, K, h => ⟨_, _, h, fun _ hp => hp, fun rr δ L _ n b hn => by change look n [] = some b at hn; simp [look] at hn⟩
  | p :: l, σ, K, h => by
    simp only [STL.get] at h
    split at h
    · rename_i v hv
      obtain ⟨σ1, f, h, hs1, hf1, g1⟩ := SSh.get_some h
      obtain ⟨σ2, y, h, hs2, g2⟩ := STL.get_some h
      refine ⟨σ2, f _ y, h, fun q hq => hs2 q (hs1 q hq), fun rr δ L hf n b hn => ?_⟩
      change look n ((p.1, (p.2.put 0 _ (f _ y)).1) :: STL.put 0 l (p.2.put 0 _ (f _ y)).2) = some b at hn
      simp only [look, hf1] at hn
      split at hn
      · rename_i e
        cases hn
        exact ⟨v, by rw [← e]; exact hv, g1 _ y rr δ L (hf.mono hs2)⟩
      · exact g2 rr δ L hf n b hn
    · simp at h
end
end Go.Proofs.YtbcginibldjnaaaGreat.AM
