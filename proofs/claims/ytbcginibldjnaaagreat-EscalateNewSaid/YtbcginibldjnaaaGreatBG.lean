/-
  The typed layer, part G: contracts of functions, calls. No project text.
-/
import Derived.Test.YtbcginibldjnaaaGreatBF
set_option linter.unusedVariables false
set_option linter.unusedSimpArgs false
namespace Go.Proofs.YtbcginibldjnaaaGreat.AM
open Go

/-! ### Values with other names -/
mutual
def BV.ren (σ : Name → Name) (δ : Name → Nat) : BV → BV
  | .agg cs => .agg (renBL σ δ cs)
  | .tup vs => .tup (renBL σ δ vs)
  | .clo f cs => .clo f (renBL σ δ cs)
  | .ref m o => .ref (σ m) o
  | .own m u => .own (σ m) (δ m + u)
  | .aref m u i o => .aref (σ m) (δ m + u) i o
  | .view m u i o => .view (σ m) (δ m + u) i o
  | .mref m => .mref (σ m)
  | x => x
def renBL (σ : Name → Name) (δ : Name → Nat) : List BV → List BV
  | [] => []
  | x :: r => x.ren σ δ :: renBL σ δ r
end
/-! All names of arrays in it are such. -/
mutual
def BV.use (p : Name → Nat → Bool) : BV → Bool
  | .agg cs => BV.useL p cs
  | .tup vs => BV.useL p vs
  | .clo _ cs => BV.useL p cs
  | .own m u => p m u
  | .aref m u _ _ => p m u
  | .view m u _ _ => p m u
  | _ => true
def BV.useL (p : Name → Nat → Bool) : List BV → Bool
  | [] => true
  | x :: r => x.use p && BV.useL p r
end
mutual
theorem ren_er {σ : Name → Name} {δ : Name → Nat} {L L' : Lens} {p : Name → Nat → Bool} (hL : ∀ n u, p n u = true → L' (σ n) (δ n + u) = L n u) : ∀ x : BV, x.use p = true → (x.er L).ren σ = (x.ren σ δ).er L'
  | .agg cs, h => by simp only [BV.use] at h; simp only [BV.er, BV.ren, AV.ren, renL_er hL cs h]
  | .tup cs, h => by simp only [BV.use] at h; simp only [BV.er, BV.ren, AV.ren, renL_er hL cs h]
  | .clo f cs, h => by simp only [BV.use] at h; simp only [BV.er, BV.ren, AV.ren, renL_er hL cs h, renL]
  | .ref _ _, _ => by simp only [BV.er, BV.ren, AV.ren]
  | .own n u, h => by simp only [BV.use] at h; simp only [BV.er, BV.ren, AV.ren, hL n u h]
  | .aref n u _ _, h => by simp only [BV.use] at h; simp only [BV.er, BV.ren, AV.ren, hL n u h]
  | .view n u _ _, h => by simp only [BV.use] at h; simp only [BV.er, BV.ren, AV.ren, hL n u h]
  | .mref _, _ => by simp only [BV.er, BV.ren, AV.ren]
  | .tep _, _ => by simp only [BV.er, BV.ren, AV.ren]
  | .any, _ => by simp only [BV.er, BV.ren, AV.ren]
  | .ub, _ => by simp only [BV.er, BV.ren, AV.ren]
  | .n _ _, _ => by simp only [BV.er, BV.ren, AV.ren]
  | .b _, _ => by simp only [BV.er, BV.ren, AV.ren]
  | .s _, _ => by simp only [BV.er, BV.ren, AV.ren]
  | .ts _ _ _, _ => by simp only [BV.er, BV.ren, AV.ren]
  | .nil, _ => by simp only [BV.er, BV.ren, AV.ren]
  | .v _, _ => by simp only [BV.er, BV.ren, AV.ren]
theorem renL_er {σ : Name → Name} {δ : Name → Nat} {L L' : Lens} {p : Name → Nat → Bool} (hL : ∀ n u, p n u = true → L' (σ n) (δ n + u) = L n u) : ∀ l : List BV, BV.useL p l = true → renL σ (erL L l) = erL L' (renBL σ δ l)
  | [], _ => by simp only [erL, renL, renBL]
  | x :: r, h => by
    simp only [BV.useL, Bool.and_eq_true] at h
    simp only [erL, renL, renBL, ren_er hL x h.1, renL_er hL r h.2]
end
mutual
theorem use_true : ∀ x : BV, x.use (fun _ _ => true) = true
  | .agg cs => by simp only [BV.use, useL_true cs]
  | .tup cs => by simp only [BV.use, useL_true cs]
  | .clo f cs => by simp only [BV.use, useL_true cs]
  | .ref _ _ => by simp only [BV.use]
  | .own n _ => by simp only [BV.use]
  | .aref n _ _ _ => by simp only [BV.use]
  | .view n _ _ _ => by simp only [BV.use]
  | .mref _ => by simp only [BV.use]
  | .tep _ => by simp only [BV.use]
  | .any => by simp only [BV.use]
  | .ub => by simp only [BV.use]
  | .n _ _ => by simp only [BV.use]
  | .b _ => by simp only [BV.use]
  | .s _ => by simp only [BV.use]
  | .ts _ _ _ => by simp only [BV.use]
  | .nil => by simp only [BV.use]
  | .v _ => by simp only [BV.use]
theorem useL_true : ∀ l : List BV, BV.useL (fun _ _ => true) l = true
  | [] => by simp only [BV.useL]
  | x :: r => by simp only [BV.useL, use_true x, useL_true r, Bool.and_self]
end
def BO.ren (σ : Name → Name) (δ : Name → Nat) (k : Nat) : BO → BO
  | .box cs => .box (renBL σ δ cs)
  | .arr t l v => .arr t l (k + v)
  | .sm es => .sm es
def BO.use (p : Name → Nat → Bool) : BO → Bool
  | .box cs => BV.useL p cs
  | .arr _ _ _ => true
  | .sm _ => true
theorem renO_er {σ : Name → Name} {δ : Name → Nat} {L L' : Lens} {p : Name → Nat → Bool} (hL : ∀ n u, p n u = true → L' (σ n) (δ n + u) = L n u) (k : Nat) (o : BO) (h : o.use p = true) : (o.er L).ren σ = (o.ren σ δ k).er L' := by
  cases o with
  | box cs => simp only [BO.er, BO.ren, AO.ren, renL_er hL cs h]
  | arr t l => simp only [BO.er, BO.ren, AO.ren]
  | sm es => simp only [BO.er, BO.ren, AO.ren]
def renHB (σ : Name → Name) (δ : Name → Nat) (hs : HS) : HS := hs.map fun p => (σ p.1, p.2.ren σ δ (δ p.1))
theorem renH_er {σ : Name → Name} {δ : Name → Nat} {L L' : Lens} {p : Name → Nat → Bool} (hL : ∀ n u, p n u = true → L' (σ n) (δ n + u) = L n u) (hs : HS) (h : hs.all (fun q => q.2.use p) = true) : renH σ (erH L hs) = erH L' (renHB σ δ hs) := by
  unfold renH erH renHB
  simp only [List.map_map]
  refine List.map_congr_left fun q hq => ?_
  simp only [Function.comp, renO_er hL (δ q.1) q.2 (List.all_eq_true.1 h q hq)]
theorem look_renHB {σ : Name → Name} {δ : Name → Nat} (hσ : ∀ a b, σ a = σ b → a = b) (n : Name) : ∀ h : HS, look (σ n) (renHB σ δ h) = (look n h).map (BO.ren σ δ (δ n))
  | [] => rfl
  | (k, o) :: r => by
    show look (σ n) ((σ k, o.ren σ δ (δ k)) :: renHB σ δ r) = (look n ((k, o) :: r)).map (BO.ren σ δ (δ n))
    simp only [look]
    by_cases e : k = n
    · simp [e]
    · rw [if_neg (fun h => e (hσ _ _ h)), if_neg e]; exact look_renHB hσ n r
theorem look_renHB_inv {σ : Name → Name} {δ : Name → Nat} {m : Name} {o : BO} : ∀ {h : HS}, look m (renHB σ δ h) = some o → ∃ n, σ n = m
  | [], h => by simp [renHB, look] at h
  | (k, x) :: r, h => by
    change look m ((σ k, x.ren σ δ (δ k)) :: renHB σ δ r) = some o at h
    simp only [look] at h
    split at h
    · exact ⟨k, by assumption⟩
    · exact look_renHB_inv h
/-! ### Closed -/
mutual
def BV.closed (ks : List Name) : BV → Bool
  | .agg cs => BV.closedL ks cs
  | .tup vs => BV.closedL ks vs
  | .clo _ cs => BV.closedL ks cs
  | .ref m _ => ks.contains m
  | .own m _ => ks.contains m
  | .aref m _ _ _ => ks.contains m
  | .view m _ _ _ => ks.contains m
  | .mref m => ks.contains m
  | _ => true
def BV.closedL (ks : List Name) : List BV → Bool
  | [] => true
  | x :: r => x.closed ks && BV.closedL ks r
end
mutual
theorem closed_er (L : Lens) (ks : List Name) : ∀ x : BV, (x.er L).closed ks = x.closed ks
  | .agg cs => by simp only [BV.er, AV.closed, BV.closed, closedL_er L ks cs]
  | .tup cs => by simp only [BV.er, AV.closed, BV.closed, closedL_er L ks cs]
  | .clo f cs => by simp only [BV.er, AV.closed, BV.closed, closedL_er L ks cs, AV.closedL, Bool.true_and]
  | .ref _ _ => by simp only [BV.er, AV.closed, BV.closed]
  | .own _ _ => by simp only [BV.er, AV.closed, BV.closed]
  | .aref _ _ _ _ => by simp only [BV.er, AV.closed, BV.closed]
  | .view _ _ _ _ => by simp only [BV.er, AV.closed, BV.closed]
  | .mref _ => by simp only [BV.er, AV.closed, BV.closed]
  | .tep _ => by simp only [BV.er, AV.closed, BV.closed]
  | .any => by simp only [BV.er, AV.closed, BV.closed]
  | .ub => by simp only [BV.er, AV.closed, BV.closed]
  | .n _ _ => by simp only [BV.er, AV.closed, BV.closed]
  | .b _ => by simp only [BV.er, AV.closed, BV.closed]
  | .s _ => by simp only [BV.er, AV.closed, BV.closed]
  | .ts _ _ _ => by simp only [BV.er, AV.closed, BV.closed]
  | .nil => by simp only [BV.er, AV.closed, BV.closed]
  | .v _ => by simp only [BV.er, AV.closed, BV.closed]
theorem closedL_er (L : Lens) (ks : List Name) : ∀ l : List BV, AV.closedL ks (erL L l) = BV.closedL ks l
  | [] => by simp only [erL, AV.closedL, BV.closedL]
  | x :: r => by simp only [erL, AV.closedL, BV.closedL, closed_er L ks x, closedL_er L ks r]
end
def BO.closed (ks : List Name) : BO → Bool
  | .box cs => BV.closedL ks cs
  | .arr _ _ _ => true
  | .sm _ => true
theorem closedO_er (L : Lens) (ks : List Name) (o : BO) : (o.er L).closed ks = o.closed ks := by cases o <;> simp only [BO.er, AO.closed, BO.closed, closedL_er]
def callB (pre h : HS) (nw : List Name) (v : BV) : Bool :=
  (keys h).all (fun n => (keys pre).contains n || nw.contains n) && nw.all (fun n => (keys h).contains n && !(keys pre).contains n) && v.closed (keys h) && h.all (fun p => p.2.closed (keys h))
theorem callB_er {L0 L1 : Lens} {pre h : HS} {nw : List Name} {v : BV} (hb : callB pre h nw v = true) : callOK (erH L0 pre) (erH L1 h) nw (v.er L1) = true := by
  unfold callB at hb
  unfold callOK
  rw [keys_erH, keys_erH, closed_er]
  have : (erH L1 h).all (fun p => p.2.closed (keys h)) = h.all (fun p => p.2.closed (keys h)) := by
    unfold erH; rw [List.all_map]; congr 1; funext p; simp only [Function.comp, closedO_er]
  rw [this]; exact hb

/-! ### Contracts -/
structure Sig where
  args : List SSh
  pre : List (Name × OSh)
  res : List SSh
  post : List (Name × OSh)
  keep : List Name
  F : (R : Type) → SL args → OL pre → (SL res → OL post → Option R) → Option R
def resB : List BV → BV
  | [v] => v
  | vs => .tup vs
def Sig.posts (g : Sig) (y : OL g.pre) (b : OL g.post) : HS := OL.put 1 g.post b ++ (OL.put 0 g.pre y).filter (fun p => g.keep.contains p.1)
def samesOf : List (Name × OSh) → List Name
  | [] => []
  | (n, .arrs _) :: r => n :: samesOf r
  | (_, .arr _) :: r => samesOf r
  | (_, .box _) :: r => samesOf r
  | (_, .boxst _) :: r => samesOf r
  | (_, .sm) :: r => samesOf r
/-- The function does what F says. -/
structure FnOK (P : Program) (k : FuncId) (g : Sig) : Prop where
  nat : ∀ (R : Type) x y (K : SL g.res → OL g.post → Option R) r, g.F R x y K = some r → ∃ a b, g.F (SL g.res × OL g.post) x y (fun a b => some (a, b)) = some (a, b) ∧ K a b = some r
  spec : ∀ x y a b, g.F (SL g.res × OL g.post) x y (fun a b => some (a, b)) = some (a, b) → ∀ L0, Inv L0 (OL.put 0 g.pre y) → ∃ L1 : Lens, (∀ n, n ∈ g.keep ∨ n ∈ samesOf g.post → L1 n 0 = L0 n 0) ∧ Inv L1 (g.posts y b) ∧
    SpecIs P k (erL L0 (SL.put 0 g.args x)) (erH L0 (OL.put 0 g.pre y)) ((resB (SL.put 1 g.res a)).er L1) (erH L1 (g.posts y b))

def renOf (m : Ren) : Name → Name := fun n => match look n m with | some a => a.1 | none => n + 10000000000
def verOf (m : Ren) : Name → Nat := fun n => match look n m with | some a => a.2 | none => 0
def lookIs (n a u : Nat) : Ren → Bool
  | [] => false
  | (k, b) :: r => if Nat.beq k n then Nat.beq b.1 a && Nat.beq b.2 u else lookIs n a u r
theorem lookIs_of {n a u : Nat} : ∀ {m : Ren}, lookIs n a u m = true → look n m = some (a, u)
  | [], h => by simp [lookIs] at h
  | (k, b) :: r, h => by
    simp only [lookIs] at h
    simp only [look]
    split at h
    · rename_i e
      simp only [Bool.and_eq_true] at h
      rw [if_pos (Nat.eq_of_beq_eq_true e), ← Nat.eq_of_beq_eq_true h.1, ← Nat.eq_of_beq_eq_true h.2]
    · rename_i e; rw [if_neg (fun e' => e (by rw [e']; exact Nat.beq_refl _))]; exact lookIs_of h
/-- One name for each, and none for two. -/
def renOK (m : Ren) : Bool := m.all fun p => lookIs p.1 p.2.1 p.2.2 m && Nat.blt p.2.1 10000000000 && m.all fun q => Nat.beq p.1 q.1 || !Nat.beq p.2.1 q.2.1
theorem renOK_fit {m : Ren} (h : renOK m = true) : Fit (renOf m) (verOf m) m := fun nm a hm => by
  have := List.all_eq_true.1 h _ hm
  simp only [Bool.and_eq_true] at this
  unfold renOf verOf; rw [lookIs_of this.1.1]; exact ⟨rfl, rfl⟩
theorem renOK_inj {m : Ren} (h : renOK m = true) : ∀ a b, renOf m a = renOf m b → a = b := fun a b e => by
  unfold renOf at e
  have hb : ∀ {n x}, look n m = some x → x.1 < 10000000000 := fun {n x} hx => by
    have := List.all_eq_true.1 h _ (look_mem hx)
    simp only [Bool.and_eq_true, Nat.blt_eq] at this
    exact this.1.2
  cases ha : look a m with
  | none =>
    cases hb' : look b m with
    | none => rw [ha, hb'] at e; exact Nat.add_right_cancel e
    | some y => rw [ha, hb'] at e; have h1 : (y.1 : Nat) < 10000000000 := hb hb'; have h2 : (a : Nat) + 10000000000 = (y.1 : Nat) := e; exact absurd h1 (by rw [← h2]; exact Nat.not_lt.2 (Nat.le_add_left _ _))
  | some x =>
    cases hb' : look b m with
    | none => rw [ha, hb'] at e; have h1 : (x.1 : Nat) < 10000000000 := hb ha; have h2 : (x.1 : Nat) = (b : Nat) + 10000000000 := e; exact absurd h1 (by rw [h2]; exact Nat.not_lt.2 (Nat.le_add_left _ _))
    | some y =>
      rw [ha, hb'] at e
      simp only at e
      have := List.all_eq_true.1 h _ (look_mem ha)
      simp only [Bool.and_eq_true] at this
      have := List.all_eq_true.1 this.2 _ (look_mem hb')
      simp only [e, Nat.beq_refl, Bool.not_true, Bool.or_false] at this
      exact Nat.eq_of_beq_eq_true this
def freshOf (d : Nat) (g : Sig) : Ren := ((keys g.post).filter fun n => !(keys g.pre).contains n).map fun n => (n, (1000000 + 1000 * d + n, 0))
def arrsOf : List (Name × OSh) → List Name
  | [] => []
  | (n, .arr _) :: r => n :: arrsOf r
  | (_, .box _) :: r => arrsOf r
  | (_, .arrs _) :: r => arrsOf r
  | (_, .boxst _) :: r => arrsOf r
  | (_, .sm) :: r => arrsOf r
def hpOf (rr : Name → Name) (hs : HS) : List Name → HS
  | [] => []
  | n :: r => match look (rr n) hs with
    | some ob => (rr n, ob) :: hpOf rr hs r
    | none => hpOf rr hs r
def callEff (g : Sig) (m : Ren) (d : Nat) (hs : HS) (y : OL g.pre) (a : SL g.res) (b : OL g.post) : BEff :=
  ⟨hpOf (renOf m) hs (keys g.pre), (resB (SL.put 1 g.res a)).ren (renOf m) (verOf m), renHB (renOf m) (verOf m) (g.posts y b), (freshOf d g).map (·.2.1),
    ((arrsOf g.post).filter fun n => (keys g.pre).contains n).map fun n => (renOf m n, verOf m n + 1)⟩
def nodupB : List Name → Bool
  | [] => true
  | n :: r => !isIn n r && nodupB r
/-- Headers in what is left: of arrays that were changed or made, in their new version; of others, in the old one. -/
def useOK (g : Sig) (n u : Nat) : Bool := match u with
  | 0 => isIn n g.keep || isIn n (samesOf g.post)
  | 1 => isIn n (arrsOf g.post)
  | _ => false
def callChk (g : Sig) (m : Ren) (d : Nat) (hs : HS) (y : OL g.pre) (a : SL g.res) (b : OL g.post) : Bool :=
  renOK m && callB (callEff g m d hs y a b).hp (callEff g m d hs y a b).upd (callEff g m d hs y a b).nw (callEff g m d hs y a b).v &&
  (resB (SL.put 1 g.res a)).use (useOK g) && (g.posts y b).all (fun q => q.2.use (useOK g)) &&
  g.keep.all (fun n => (keys g.pre).contains n && !(keys g.post).contains n)
end Go.Proofs.YtbcginibldjnaaaGreat.AM
