/-
  The typed layer, part B: states, weaker states, headers that grow stale, arrays that are frozen. No project text.
-/
import Derived.Test.YtbcginibldjnaaaGreatBT
set_option linter.unusedVariables false
set_option linter.unusedSimpArgs false
namespace Go.Proofs.YtbcginibldjnaaaGreat.AM
open Go

theorem Sim.leS {Γ : Ctx} {s s' : AS} {ρ : Name → Loc} {M : Nat → Prop} {a : Act} {w : World} (h : Sim Γ ρ M s a w)
    (h1 : ∀ t y, s'.slot t = some y → ∃ x, s.slot t = some x ∧ AVle x y)
    (h2 : ∀ n, (∀ y, s'.heap n = some y → ∃ x, s.heap n = some x ∧ AOle x y) ∧ (∀ x, s.heap n = some x → ∃ y, s'.heap n = some y ∧ AOle x y)) (hf : ∀ n x y, s.heap n = some x → s'.heap n = some y → x = y ∨ (∃ cs ds, x = .box cs ∧ y = .box ds) ∨ (∃ es rs qs, x = .arr es rs ∧ y = .arr es qs)) : Sim Γ ρ M s' a w := by
  have hst : HStep ρ s.heap ρ s'.heap := fun n ob hn => by
    obtain ⟨y, hy, hle⟩ := (h2 n).2 ob hn
    rw [hy]
    exact stays_le hle (stays_refl _ _)
  have hnn : ∀ n, s.heap n = none → s'.heap n = none := fun n hn => by
    cases hc : s'.heap n with
    | none => rfl
    | some y =>
      obtain ⟨x, hx, _⟩ := (h2 n).1 y hc
      rw [hx] at hn; simp at hn
  have hconv : ∀ {x : AV} {u : Value}, x.R ρ s.heap M w u → x.R ρ s'.heap M w u := fun hr =>
    hr.step (Ext.refl (fun _ => False) _) (fun _ hb => hb.elim) (fun b _ hb => hb) hst (fun n _ => hnn n)
  have hconvs : ∀ {xs : List AV} {us : List Value}, AV.Rs ρ s.heap M w xs us → AV.Rs ρ s'.heap M w xs us := fun hr =>
    hr.step (Ext.refl (fun _ => False) _) (fun _ hb => hb.elim) (fun b _ hb => hb) hst (fun n _ => hnn n)
  refine ⟨h.n, h.d, fun t y hy => ?_, fun n y hy => ?_, fun n m o o' b g1 g2 => ?_, fun n o b g1 g2 => ?_, fun n hn => ?_, h.ext, h.mext, h.msize, h.m0, h.ground⟩
  · obtain ⟨x, hx, hle⟩ := h1 t y hy
    obtain ⟨u, hu, hr⟩ := h.slots t x hx
    exact ⟨u, hu, hle.sound u (hconv hr)⟩
  · obtain ⟨x, hx, hle⟩ := (h2 n).1 y hy
    have hobj := h.objs n x hx
    rcases hf n x y hx hy with rfl | ⟨cs, ds, rfl, rfl⟩ | ⟨es, rs, qs, rfl, rfl⟩
    · cases x with
      | box cells => obtain ⟨b, T, cs, k1, k2, k3, k4⟩ := hobj; exact ⟨b, T, cs, k1, k2, k3, hconvs k4⟩
      | arr es rows => exact hobj
      | hole es pre row post => obtain ⟨k0, k0', k1, b, T, cs, k3, k4, k5, k6, k7, k8, k9⟩ := hobj; exact ⟨k0, k0', k1, b, T, cs, k3, k4, k5, k6, k7, hconvs k8, k9⟩
      | fact a x => exact ⟨hobj.1, hconv hobj.2⟩
      | obj x => exact hobj
    · obtain ⟨b, T, us, k1, k2, k3, k4⟩ := hobj
      refine ⟨b, T, us, k1, k2, k3, ?_⟩
      cases hle with
      | refl => exact hconvs k4
      | box hb => exact Rs_le hb _ (hconvs k4)
    · cases hle with
      | refl => exact hobj
      | arr hr =>
        obtain ⟨k0, k1, k2⟩ := hobj
        refine ⟨k0, by rw [← hr.length]; exact k1, k2.imp id ?_⟩
        rintro ⟨b, T, cs, q1, q2, q3, q4, q5⟩
        exact ⟨b, T, cs, q1, q2, q3, q4, hr.rows q5⟩
  · obtain ⟨x, hx, _⟩ := (h2 n).1 o g1
    obtain ⟨x', hx', _⟩ := (h2 m).1 o' g2
    exact h.inj n m x x' b hx hx'
  · obtain ⟨x, hx, _⟩ := (h2 n).1 o g1
    exact h.own0 n x b hx g2
  · obtain ⟨x, hx, hst'⟩ := h.keep n hn
    obtain ⟨y, hy, hle⟩ := (h2 n).2 x hx
    exact ⟨y, hy, stays_le hle hst'⟩

/-- What the lengths say of the arrays. -/
def Inv (L : Lens) (hs : HS) : Prop := ∀ n t l v, look n hs = some (.arr t l v) → L n v = l.length
def BS (L : Lens) (ts : TS) (hs : HS) : AS := mk (erT L ts) (erH L hs)
variable {L L' : Lens} {ts ts' : TS} {hs hs' : HS}
theorem BS_slot (t : Nat) : (BS L ts hs).slot t = (look t ts).map (BV.er L) := look_erT t ts
theorem BS_heap (n : Nat) : (BS L ts hs).heap n = (look n hs).map (BO.er L) := look_erH n hs
theorem slot_of {t : Nat} {y : AV} (h : (BS L ts hs).slot t = some y) : ∃ v, look t ts = some v ∧ y = v.er L := by
  rw [BS_slot] at h
  cases hl : look t ts with
  | none => rw [hl] at h; simp at h
  | some v => rw [hl] at h; exact ⟨v, rfl, by simpa using h.symm⟩
theorem heap_of {t : Nat} {y : AO} (h : (BS L ts hs).heap t = some y) : ∃ v, look t hs = some v ∧ y = v.er L := by
  rw [BS_heap] at h
  cases hl : look t hs with
  | none => rw [hl] at h; simp at h
  | some v => rw [hl] at h; exact ⟨v, rfl, by simpa using h.symm⟩

/-- From state to state: slot by slot, object by object. -/
structure SLe (L : Lens) (ts : TS) (hs : HS) (L' : Lens) (ts' : TS) (hs' : HS) : Prop where
  slot : ∀ t y, look t ts' = some y → ∃ x, look t ts = some x ∧ AVle (x.er L) (y.er L')
  box : ∀ n cs', look n hs' = some (.box cs') → ∃ cs, look n hs = some (.box cs) ∧ AVleL (erL L cs) (erL L' cs')
  arr : ∀ n t l v, look n hs' = some (.arr t l v) → ∃ u, look n hs = some (.arr t l u)
  sm : ∀ n es, look n hs' = some (.sm es) → look n hs = some (.sm es)
theorem Sim.sle {Γ : Ctx} {ρ : Name → Loc} {M : Nat → Prop} {a : Act} {w : World} (h : Sim Γ ρ M (BS L ts hs) a w) (h' : SLe L ts hs L' ts' hs') (hk : ∀ n, n ∈ Γ.names → look n hs' ≠ none) : Sim Γ ρ M (BS L' ts' hs') a w := by
  have ho : ∀ n y, look n hs' = some y → ∃ x, look n hs = some x ∧ AOle (x.er L) (y.er L') ∧ (x.er L = y.er L' ∨ (∃ cs ds, x.er L = .box cs ∧ y.er L' = .box ds) ∨ ∃ es rs qs, x.er L = .arr es rs ∧ y.er L' = .arr es qs) := fun n y hy => by
    cases y with
    | box cs' => obtain ⟨cs, g1, g2⟩ := h'.box n cs' hy; exact ⟨_, g1, .box g2, .inr (.inl ⟨_, _, rfl, rfl⟩)⟩
    | arr t l v => obtain ⟨u, hu⟩ := h'.arr n t l v hy; exact ⟨_, hu, .refl _, .inl rfl⟩
    | sm es => exact ⟨_, h'.sm n es hy, .refl _, .inl rfl⟩
  have h0 : Sim Γ ρ M ⟨(BS L ts hs).slot, fun n => if (look n hs').isSome then (BS L ts hs).heap n else none⟩ a w := by
    refine h.forget (fun t x hx => hx) (fun n o hn => ?_) (fun n hn hc => ?_)
    · simp only at hn
      split at hn
      · exact hn
      · simp at hn
    · cases hl : look n hs' with
      | none => exact hk n hn hl
      | some y =>
        obtain ⟨x, hx, _⟩ := ho n y hl
        simp only [hl, Option.isSome_some, if_true, BS_heap, hx, Option.map_some, reduceCtorEq] at hc
  refine h0.leS (fun t y hy => ?_) (fun n => ⟨fun y hy => ?_, fun x hx => ?_⟩) (fun n x y hx hy => ?_)
  · obtain ⟨v, hv, rfl⟩ := slot_of hy
    obtain ⟨x, hx, hle⟩ := h'.slot t v hv
    exact ⟨x.er L, by show (BS L ts hs).slot t = _; rw [BS_slot, hx]; rfl, hle⟩
  · obtain ⟨v, hv, rfl⟩ := heap_of hy
    obtain ⟨x, hx, hle, _⟩ := ho n v hv
    exact ⟨x.er L, by simp only [hv, Option.isSome_some, if_true, BS_heap, hx, Option.map_some], hle⟩
  · simp only at hx
    split at hx
    · rename_i hs
      obtain ⟨y, hy⟩ := Option.isSome_iff_exists.1 hs
      obtain ⟨v, hv, rfl⟩ := heap_of hx
      obtain ⟨x, hx', hle, _⟩ := ho n y hy
      rw [hv] at hx'; cases hx'
      exact ⟨y.er L', by rw [BS_heap, hy]; rfl, hle⟩
    · simp at hx
  · simp only at hx
    split at hx
    · obtain ⟨v, hv, rfl⟩ := heap_of hx
      obtain ⟨y', hy', rfl⟩ := heap_of hy
      obtain ⟨x, hx', _, h3⟩ := ho n y' hy'
      rw [hv] at hx'; cases hx'
      exact h3
    · simp at hx
theorem look_mapT {f : BV → BV} (k : Nat) : ∀ ts : TS, look k (ts.map fun p => (p.1, f p.2)) = (look k ts).map f
  | [] => rfl
  | (j, x) :: r => by
    show look k ((j, f x) :: r.map fun p => (p.1, f p.2)) = (look k ((j, x) :: r)).map f
    simp only [look]; split
    · rfl
    · exact look_mapT k r
def isIn (m : Name) (ns : List Name) : Bool := ns.any fun n => Nat.beq n m
theorem isIn_iff {m : Name} {ns : List Name} : isIn m ns = true ↔ m ∈ ns := by
  unfold isIn; rw [List.any_eq_true]
  exact ⟨fun ⟨n, h1, h2⟩ => by rw [← Nat.eq_of_beq_eq_true h2]; exact h1, fun h => ⟨m, h, Nat.beq_refl _⟩⟩

/-! ### Arrays that are frozen -/
mutual
/-- The array's headers become its data; those of other versions are forgotten. -/
def BV.frz (n : Name) (v : Nat) (t : TC) (l : List (TT t)) : BV → BV
  | .own m u => if Nat.beq m n then (if Nat.beq u v then .ts false t l else .any) else .own m u
  | .aref m u i o => if Nat.beq m n then .any else .aref m u i o
  | .view m u i o => if Nat.beq m n then (if Nat.beq u v then .ts false t ((l.take o).drop i) else .any) else .view m u i o
  | .agg cs => .agg (frzL n v t l cs)
  | x => x
def frzL (n : Name) (v : Nat) (t : TC) (l : List (TT t)) : List BV → List BV
  | [] => []
  | x :: r => BV.frz n v t l x :: frzL n v t l r
end
mutual
/-- Forgotten: what names the array, but for headers of that version. -/
def BV.sh (n : Name) (v : Nat) : BV → BV
  | .own m u => if Nat.beq m n then (if Nat.beq u v then .own m u else .any) else .own m u
  | .aref m u i o => if Nat.beq m n then .any else .aref m u i o
  | .view m u i o => if Nat.beq m n then (if Nat.beq u v then .view m u i o else .any) else .view m u i o
  | .agg cs => .agg (shL n v cs)
  | x => x
def shL (n : Name) (v : Nat) : List BV → List BV
  | [] => []
  | x :: r => BV.sh n v x :: shL n v r
end
/-- A cell of which no tuple or closure names the array. -/
def fzCell (n : Name) (c : BV) : Bool := match c with
  | .own _ _ => true
  | .aref _ _ _ _ => true
  | .view _ _ _ _ => true
  | .agg _ => false
  | x => !x.has n
def BV.fzOK (n : Name) : BV → Bool
  | .agg cs => cs.all (fzCell n)
  | x => fzCell n x
def BO.frz (n : Name) (v : Nat) (t : TC) (l : List (TT t)) : BO → BO
  | .box cs => .box (frzL n v t l cs)
  | .arr t l v => .arr t l v
  | .sm es => .sm es
def BO.sh (n : Name) (v : Nat) : BO → BO
  | .box cs => .box (shL n v cs)
  | .arr t l v => .arr t l v
  | .sm es => .sm es
def BO.fzOK (n : Name) : BO → Bool
  | .box cs => cs.all (fzCell n)
  | .arr _ _ _ => true
  | .sm _ => true
def fzT (n : Name) (v : Nat) (t : TC) (l : List (TT t)) (ts : TS) : TS := ts.map fun p => (p.1, p.2.frz n v t l)
def fzH (n : Name) (v : Nat) (t : TC) (l : List (TT t)) : HS → HS
  | [] => []
  | (k, o) :: r => if Nat.beq k n then fzH n v t l r else (k, o.frz n v t l) :: fzH n v t l r
def fzB (n : Name) (ts : TS) (hs : HS) : Bool := ts.all (fun p => p.2.fzOK n) && hs.all (fun p => p.2.fzOK n)
section
variable {n : Name} {v : Nat} {t : TC} {l : List (TT t)}
theorem sh_cell {x : BV} : fzCell n x = true → AVle (x.er L) ((x.sh n v).er L) := by
  intro h
  cases x with
  | own m u =>
    simp only [BV.sh]
    split
    · split
      · exact .refl _
      · simp only [BV.er]; exact .any rfl (by simp)
    · exact .refl _
  | aref m u i o =>
    simp only [BV.sh]
    split
    · simp only [BV.er]; exact .any rfl (by simp)
    · exact .refl _
  | view m u i o =>
    simp only [BV.sh]
    split
    · split
      · exact .refl _
      · simp only [BV.er]; exact .any rfl (by simp)
    · exact .refl _
  | agg cs => simp [fzCell] at h
  | _ => simp only [BV.sh]; exact .refl _
theorem sh_cells : ∀ {cs : List BV}, cs.all (fzCell n) = true → AVleL (erL L cs) (erL L (shL n v cs))
  | [], _ => by simp only [shL, erL]; exact .nil
  | x :: r, h => by
    simp only [List.all_cons, Bool.and_eq_true] at h
    simp only [shL, erL]
    exact .cons (sh_cell h.1) (sh_cells h.2)
theorem sh_val {x : BV} (h : x.fzOK n = true) : AVle (x.er L) ((x.sh n v).er L) := by
  cases x with
  | agg cs => simp only [BV.sh, BV.er]; exact .agg (sh_cells h)
  | _ => exact sh_cell h
theorem frz_cell {px : Value → Prop} {x : BV} (h : fzCell n x = true) (hL : L n v = (l.map (tcells t)).length) : Frz px n (tz t) (l.map (tcells t)) ((x.sh n v).er L) ((x.frz n v t l).er L) := by
  cases x with
  | own m u =>
    simp only [BV.sh, BV.frz]
    split
    · split
      · rename_i e1 e2
        have := Nat.eq_of_beq_eq_true e1; subst this
        have := Nat.eq_of_beq_eq_true e2; subst this
        simp only [BV.er, hL]; exact .own
      · exact .same (by simp only [BV.er, AV.has])
    · rename_i hne
      have : m ≠ n := fun e => by subst e; simp at hne
      exact .same (by simp only [BV.er, AV.has]; simpa using this)
  | aref m u i o =>
    simp only [BV.sh, BV.frz]
    split
    · exact .same (by simp only [BV.er, AV.has])
    · rename_i hne
      have : m ≠ n := fun e => by subst e; simp at hne
      exact .same (by simp only [BV.er, AV.has]; simpa using this)
  | view m u i o =>
    simp only [BV.sh, BV.frz]
    split
    · split
      · rename_i e1 e2
        have := Nat.eq_of_beq_eq_true e1; subst this
        have := Nat.eq_of_beq_eq_true e2; subst this
        simp only [BV.er, hL, List.map_drop, List.map_take]; exact .view
      · exact .same (by simp only [BV.er, AV.has])
    · rename_i hne
      have : m ≠ n := fun e => by subst e; simp at hne
      exact .same (by simp only [BV.er, AV.has]; simpa using this)
  | agg cs => simp [fzCell] at h
  | _ => simp only [BV.sh, BV.frz]; exact .same (by rw [has_er]; simpa only [fzCell, Bool.not_eq_true'] using h)
theorem frz_cells {px : Value → Prop} (hL : L n v = (l.map (tcells t)).length) : ∀ {cs : List BV}, cs.all (fzCell n) = true → FrzL px n (tz t) (l.map (tcells t)) (erL L (shL n v cs)) (erL L (frzL n v t l cs))
  | [], _ => by simp only [erL, shL, frzL]; exact .nil
  | x :: r, h => by
    simp only [List.all_cons, Bool.and_eq_true] at h
    simp only [erL, shL, frzL]
    exact .cons (frz_cell h.1 hL) (frz_cells hL h.2)
theorem frz_val {px : Value → Prop} {x : BV} (h : x.fzOK n = true) (hL : L n v = (l.map (tcells t)).length) : Frz px n (tz t) (l.map (tcells t)) ((x.sh n v).er L) ((x.frz n v t l).er L) := by
  cases x with
  | agg cs => simp only [BV.sh, BV.frz, BV.er]; exact .agg (frz_cells hL h)
  | _ => exact frz_cell h hL
theorem TsFrz_of {px : Value → Prop} (hL : L n v = (l.map (tcells t)).length) : ∀ {ts : TS}, ts.all (fun p => p.2.fzOK n) = true → TsFrz px n (tz t) (l.map (tcells t)) (erT L (ts.map fun p => (p.1, p.2.sh n v))) (erT L (fzT n v t l ts))
  | [], _ => trivial
  | (k, x) :: r, h => by
    simp only [List.all_cons, Bool.and_eq_true] at h
    exact ⟨rfl, frz_val h.1 hL, TsFrz_of hL h.2⟩
/-- Without the array itself. -/
def delH (n : Name) (v : Nat) : HS → HS
  | [] => []
  | (k, o) :: r => if Nat.beq k n then delH n v r else (k, o.sh n v) :: delH n v r
theorem HsFrz_of {px : Value → Prop} (hL : L n v = (l.map (tcells t)).length) : ∀ {hs : HS}, hs.all (fun p => p.2.fzOK n) = true → HsFrz px n (tz t) (l.map (tcells t)) (erH L (delH n v hs)) (erH L (fzH n v t l hs))
  | [], _ => trivial
  | (k, o) :: r, h => by
    simp only [List.all_cons, Bool.and_eq_true] at h
    simp only [delH, fzH]
    split
    · exact HsFrz_of hL h.2
    · rename_i hne
      refine ⟨rfl, fun (e : k = n) => hne (by simp [e]), ?_, HsFrz_of hL h.2⟩
      cases o with
      | box cs => exact .box (frz_cells hL h.1)
      | arr t' l' => exact .same rfl
      | sm es => exact .same rfl
theorem look_delH (n k : Nat) (hs : HS) : look k (delH n v hs) = if k = n then none else (look k hs).map (BO.sh n v) := by
  induction hs with
  | nil => simp [delH, look]
  | cons p r ih =>
    obtain ⟨j, o⟩ := p
    simp only [delH]
    split
    · rename_i e
      have := Nat.eq_of_beq_eq_true e; subst this
      rw [ih]
      simp only [look]
      by_cases h : k = j
      · simp [h]
      · simp [h, Ne.symm h]
    · rename_i e
      simp only [look]
      split
      · rename_i e'; subst e'
        rw [if_neg (fun h => e (by simp [h]))]; rfl
      · exact ih
theorem look_fzH (n k : Nat) (hs : HS) : look k (fzH n v t l hs) = if k = n then none else (look k hs).map (BO.frz n v t l) := by
  induction hs with
  | nil => simp [fzH, look]
  | cons p r ih =>
    obtain ⟨j, o⟩ := p
    simp only [fzH]
    split
    · rename_i e
      have := Nat.eq_of_beq_eq_true e; subst this
      rw [ih]
      simp only [look]
      by_cases h : k = j
      · simp [h]
      · simp [h, Ne.symm h]
    · rename_i e
      simp only [look]
      split
      · rename_i e'; subst e'
        rw [if_neg (fun h => e (by simp [h]))]; rfl
      · exact ih
theorem Sim.frz {Γ : Ctx} {ρ : Name → Loc} {M : Nat → Prop} {a : Act} {w : World} (h : Sim Γ ρ M (BS L ts hs) a w) (hi : Inv L hs) (hn : n ∉ Γ.names) (hl : look n hs = some (.arr t l v)) (hb : fzB n ts hs = true) :
    (∃ ρ' M', Sim Γ ρ' M' (BS L (fzT n v t l ts) (fzH n v t l hs)) a w) ∧ Inv L (fzH n v t l hs) := by
  simp only [fzB, Bool.and_eq_true] at hb
  have hL : L n v = (l.map (tcells t)).length := by rw [hi n t l v hl, List.length_map]
  have h1 : Sim Γ ρ M (AM.mk (erT L (ts.map fun p => (p.1, p.2.sh n v))) ((n, .arr (tz t) (l.map (tcells t))) :: erH L (delH n v hs))) a w := by
    refine h.leS (fun k y hy => ?_) (fun k => ⟨fun y hy => ?_, fun x hx => ?_⟩) (fun k x y hx hy => ?_)
    · obtain ⟨y', hy', rfl⟩ := slot_of (L := L) (hs := hs) hy
      rw [look_mapT] at hy'
      cases hx : look k ts with
      | none => rw [hx] at hy'; simp at hy'
      | some x =>
        rw [hx] at hy'
        simp only [Option.map_some, Option.some.injEq] at hy'
        subst hy'
        exact ⟨x.er L, by rw [BS_slot, hx]; rfl, sh_val (List.all_eq_true.1 hb.1 _ (look_mem hx))⟩
    · simp only [AM.mk, look] at hy
      split at hy
      · rename_i e; subst e; cases hy; exact ⟨_, by rw [BS_heap, hl]; rfl, .refl _⟩
      · rename_i e
        rw [look_erH, look_delH, if_neg (Ne.symm e)] at hy
        cases hx : look k hs with
        | none => rw [hx] at hy; simp at hy
        | some x =>
          rw [hx] at hy
          simp only [Option.map_some, Option.some.injEq] at hy
          subst hy
          refine ⟨x.er L, by rw [BS_heap, hx]; rfl, ?_⟩
          have hx' := List.all_eq_true.1 hb.2 _ (look_mem hx)
          cases x with
          | box cs => exact .box (sh_cells hx')
          | arr t l => exact .refl _
          | sm es => exact .refl _
    · obtain ⟨x', hx', rfl⟩ := heap_of hx
      by_cases e : n = k
      · subst e; rw [hl] at hx'; cases hx'; exact ⟨_, by simp only [AM.mk, look, if_true]; rfl, .refl _⟩
      · refine ⟨(x'.sh n v).er L, by simp only [AM.mk, look, if_neg e, look_erH, look_delH, if_neg (Ne.symm e), hx']; rfl, ?_⟩
        have hx'' := List.all_eq_true.1 hb.2 _ (look_mem hx')
        cases x' with
        | box cs => exact .box (sh_cells hx'')
        | arr t l => exact .refl _
        | sm es => exact .refl _
    · obtain ⟨x', hx', rfl⟩ := heap_of hx
      by_cases e : n = k
      · subst e
        simp only [AM.mk, look, if_true] at hy
        rw [hl] at hx'; cases hx'; cases hy; exact .inl rfl
      · simp only [AM.mk, look, if_neg e, look_erH, look_delH, if_neg (Ne.symm e), hx'] at hy
        cases hy
        cases x' with
        | box cs => exact .inr (.inl ⟨_, _, rfl, rfl⟩)
        | arr t l => exact .inl rfl
        | sm es => exact .inl rfl
  refine ⟨Weak.freeze hn (TsFrz_of hL hb.1) (HsFrz_of hL hb.2) ρ M a w h1, fun k t' l' u hk => ?_⟩
  rw [look_fzH] at hk
  split at hk
  · simp at hk
  · cases hx : look k hs with
    | none => rw [hx] at hk; simp at hk
    | some x =>
      rw [hx] at hk
      simp only [Option.map_some, Option.some.injEq] at hk
      cases x with
      | box cs => simp [BO.frz] at hk
      | arr t2 l2 => simp only [BO.frz] at hk; cases hk; exact hi k _ _ _ hx
      | sm es => simp [BO.frz] at hk
end
end Go.Proofs.YtbcginibldjnaaaGreat.AM
